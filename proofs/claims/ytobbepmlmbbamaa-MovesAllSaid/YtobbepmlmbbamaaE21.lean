/-
 The texts Rp.
-/
import Derived.Test.YtobbepmlmbbamaaE18
import Derived.Test.YtobbepmlmbbamaaE20
set_option linter.unusedVariables false
set_option linter.unusedSimpArgs false
section
namespace Go.Proofs.Ytobbepmlmbbamaa
open Go Go.RowKit
attribute [local go_sem ↓] Go.wp_at_zero Go.wp_at_succ
set_option maxRecDepth 100000 in
set_option maxHeartbeats 4000000 in
theorem runcurl_range (base n q cp cq:Nat) (A B:Option Addr) (lp k x y s:Int) (o:Bool) (ss:List Int) (l:List Nat) (r:Pl.Dg) (mv:Mv) (w:World) (h:Own2 base w (.slice A n cp) (.slice B q cq) n q ss l) (hn:n ≤ 1000) (hin:¬ inR n ⟨2,x,y,s,o⟩) :
 Calls Try.prog 54 #[.agg #[.slice A n cp,.slice B q cq,.int .i64 lp],.agg #[.int .i64 k,.int .i64 x,.int .i64 y,.int .i64 s,.bool o]] w (RC base 2 r mv w) := by
 have hin':¬ (0 ≤ x ∧ x < n ∧ y = 0 ∧ s = 0 ∧ o = false):=fun e => hin (by unfold inR; simp; exact e)
 have BE:=hide (show Below base w ((((w.alloc (.cells #[.slice A n cp,.slice B q cq,.int .i64 lp] 24)).alloc (.cells #[.int .i64 k,.int .i64 x,.int .i64 y,.int .i64 s,.bool o] 28)).alloc (.cells #[.slice A n cp,.slice B q cq,.int .i64 lp] 24)).alloc (.cells #[.int .i64 k,.int .i64 x,.int .i64 y,.int .i64 s,.bool o] 28)).drew from (((((Below.refl w.heap.size w).alloc (Nat.le_refl _) _).alloc (by simp) _).alloc (by simp; omega) _).alloc (by simp; omega) _).drew.mono h.le)
 clear hin h
 by_cases h1:x < 0
 ·have t1:decide (x < 0) = true:=by simpa using h1
  clear h1 hin'
  go_enter Try.func54,Try.ntmps54
  go_wp2_with fail
  go_region
  go_wp2_with fail
  refine bodyPost_ret (v := .tuple #[.agg #[.slice A n cp,.slice B q cq,.int .i64 lp],.agg #[.int .i64 k,.int .i64 x,.int .i64 y,.int .i64 s,.bool o],.int .i64 2]) (by simp [results,Try.results54,go_sem]) rfl ?_
  exact rc_err (by decide) ⟨A,B,n,q,cp,cq,lp,k,x,y,s,o,rfl⟩ BE.out
 ·have t1:decide (x < 0) = false:=by simpa using h1
  by_cases h2:x < n
  ·have t2:decide ((n:Int) ≤ x) = false:=by simp; omega
   by_cases h3:y = 0
   ·have t3:(y != 0) = false:=by simpa using h3
    by_cases h4:s = 0
    ·have t4:(s != 0) = false:=by simpa using h4
     cases o with
     | false => exact absurd ⟨by omega,h2,h3,h4,rfl⟩ hin'
     | true =>
       clear h1 h2 h3 h4 hin'
       go_enter Try.func54,Try.ntmps54
       go_wp2_with fail
       go_region
       go_wp2_with fail
       refine bodyPost_ret (v := .tuple #[.agg #[.slice A n cp,.slice B q cq,.int .i64 lp],.agg #[.int .i64 k,.int .i64 x,.int .i64 y,.int .i64 s,.bool true],.int .i64 2]) (by simp [results,Try.results54,go_sem]) rfl ?_
       exact rc_err (by decide) ⟨A,B,n,q,cp,cq,lp,k,x,y,s,true,rfl⟩ BE.out
    ·have t4:(s != 0) = true:=by rw [bne_iff_ne]; exact h4
     clear h1 h2 h3 h4 hin'
     go_enter Try.func54,Try.ntmps54
     go_wp2_with fail
     go_region
     go_wp2_with fail
     refine bodyPost_ret (v := .tuple #[.agg #[.slice A n cp,.slice B q cq,.int .i64 lp],.agg #[.int .i64 k,.int .i64 x,.int .i64 y,.int .i64 s,.bool o],.int .i64 2]) (by simp [results,Try.results54,go_sem]) rfl ?_
     exact rc_err (by decide) ⟨A,B,n,q,cp,cq,lp,k,x,y,s,o,rfl⟩ BE.out
   ·have t3:(y != 0) = true:=by rw [bne_iff_ne]; exact h3
    clear h1 h2 h3 hin'
    go_enter Try.func54,Try.ntmps54
    go_wp2_with fail
    go_region
    go_wp2_with fail
    refine bodyPost_ret (v := .tuple #[.agg #[.slice A n cp,.slice B q cq,.int .i64 lp],.agg #[.int .i64 k,.int .i64 x,.int .i64 y,.int .i64 s,.bool o],.int .i64 2]) (by simp [results,Try.results54,go_sem]) rfl ?_
    exact rc_err (by decide) ⟨A,B,n,q,cp,cq,lp,k,x,y,s,o,rfl⟩ BE.out
  ·have t2:decide ((n:Int) ≤ x) = true:=by simp; omega
   clear h1 h2 hin'
   go_enter Try.func54,Try.ntmps54
   go_wp2_with fail
   go_region
   go_wp2_with fail
   refine bodyPost_ret (v := .tuple #[.agg #[.slice A n cp,.slice B q cq,.int .i64 lp],.agg #[.int .i64 k,.int .i64 x,.int .i64 y,.int .i64 s,.bool o],.int .i64 2]) (by simp [results,Try.results54,go_sem]) rfl ?_
   exact rc_err (by decide) ⟨A,B,n,q,cp,cq,lp,k,x,y,s,o,rfl⟩ BE.out
theorem runcurl_any (d:Pl.Dg) (hd:Pl.Wf d) (base cp cq m:Nat) (A B:Option Addr) (x y s:Int) (o:Bool) (w:World) (hm:m = 4 * d.n) (h:Own2 base w (.slice A d.n cp) (.slice B m cq) d.n m d.sg d.mt) :
 Calls Try.prog 54 #[.agg #[.slice A d.n cp,.slice B m cq,.int .i64 d.lp],.agg #[.int .i64 2,.int .i64 x,.int .i64 y,.int .i64 s,.bool o]] w (RC base (apC d ⟨2,x,y,s,o⟩) (apD d ⟨2,x,y,s,o⟩) (apI d ⟨2,x,y,s,o⟩) w) := by
 by_cases hin:inR d.n ⟨2,x,y,s,o⟩
 ·have hi:=hin
  unfold inR at hi
  simp at hi
  obtain ⟨h0,h1,rfl,rfl,rfl⟩:=hi
  obtain ⟨c,rfl⟩:=Int.eq_ofNat_of_zero_le h0
  have e:apC d ⟨2,(c:Int),0,0,false⟩ = uncC d c:=by
   unfold apC
   rw [if_neg (by simp),if_neg (by rw [Pl.vb_true hin]; decide),if_neg (by simp),if_pos rfl]
   rfl
  rw [e]
  exact runcurl_in d hd base cp cq m A B 2 c w hm h (by omega)
 ·have e : apC d ⟨2, x, y, s, o⟩ = 2 := by
   unfold apC
   rw [if_neg (by simp),if_pos (Pl.vb_false hin)]
  rw [e]
  exact runcurl_range base d.n m cp cq A B d.lp 2 x y s o d.sg d.mt _ _ w h (by have := hd.few; omega) hin
theorem rcurl_any (d:Pl.Dg) (hd:Pl.Wf d) (base cp cq m:Nat) (A B:Option Addr) (x y s:Int) (o:Bool) (w:World) (hm:m = 4 * d.n) (h:Own2 base w (.slice A d.n cp) (.slice B m cq) d.n m d.sg d.mt) :
 Calls Try.prog 53 #[.agg #[.slice A d.n cp,.slice B m cq,.int .i64 d.lp],.agg #[.int .i64 1,.int .i64 x,.int .i64 y,.int .i64 s,.bool o]] w (RC base (apC d ⟨1,x,y,s,o⟩) (apD d ⟨1,x,y,s,o⟩) (apI d ⟨1,x,y,s,o⟩) w) := by
 by_cases hin:inR d.n ⟨1,x,y,s,o⟩
 ·have hi:=hin
  unfold inR at hi
  simp only [if_pos] at hi
  obtain ⟨h0,h1,rfl,hs⟩:=hi
  have e:apC d ⟨1,x,0,s,o⟩ = curlableC d x:=by
   unfold apC
   rw [if_neg (by simp),if_neg (by rw [Pl.vb_true hin]; decide),if_pos rfl]
  rw [e]
  show Calls _ _ _ w (RC base (curlableC d x) (crl d x s o) ⟨2,d.n,0,0,false⟩ w)
  rcases Int.lt_or_le x 0 with hx | hx
  ·obtain rfl:x = -1 := by omega
   rcases hs with rfl | rfl <;> cases o
   ·exact rcurl_lpu d hd base cp cq m A B 1 w hm h
   ·exact rcurl_lpo d hd base cp cq m A B 1 w hm h
   ·exact rcurl_lmu d hd base cp cq m A B 1 w hm h
   ·exact rcurl_lmo d hd base cp cq m A B 1 w hm h
  ·obtain ⟨c,rfl⟩:=Int.eq_ofNat_of_zero_le hx
   rcases hs with rfl | rfl <;> cases o
   ·exact rcurl_epu d hd base cp cq m A B 1 c w hm h (by omega)
   ·exact rcurl_epo d hd base cp cq m A B 1 c w hm h (by omega)
   ·exact rcurl_emu d hd base cp cq m A B 1 c w hm h (by omega)
   ·exact rcurl_emo d hd base cp cq m A B 1 c w hm h (by omega)
 ·have e : apC d ⟨1, x, y, s, o⟩ = 2 := by
   unfold apC
   rw [if_neg (by simp),if_pos (Pl.vb_false hin)]
  rw [e]
  exact rcurl_range base d.n m cp cq A B d.lp 1 x y s o d.sg d.mt _ _ w h (by have := hd.few; omega) hin
end Go.Proofs.Ytobbepmlmbbamaa
end
