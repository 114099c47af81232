/-
 The text Rs.
-/
import Derived.Test.YtobbepmlmbbamaaB00
import Derived.Test.YtobbepmlmbbamaaB02
import Derived.Test.YtobbepmlmbbamaaB04
import Derived.Test.YtobbepmlmbbamaaB05
import Derived.Test.YtobbepmlmbbamaaCRr
import Derived.Test.YtobbepmlmbbamaaShelf
set_option linter.unusedVariables false
set_option linter.unusedSimpArgs false
section
namespace Go.Proofs.Ytobbepmlmbbamaa
open Go.RowKit
theorem m_get0 {d:Pl.Dg} (hd:Pl.Wf d) {h:Nat} (hh:h < 4 * d.n):d.mt.getD h 0 = d.m h := by
 have hl:=hd.len
 unfold Pl.Dg.m
 rw [List.getD_eq_getElem?_getD,List.getD_eq_getElem?_getD,List.getElem?_eq_getElem (by omega)]; rfl
theorem flat_congr {f g:Nat → Nat}:∀ {l:List Nat},(∀ c,c ∈ l → Pl.four f c = Pl.four g c) → l.flatMap (Pl.four f) = l.flatMap (Pl.four g)
 | [],_ => rfl
 | c :: l,h => by rw [List.flatMap_cons,List.flatMap_cons,h c (by simp),flat_congr (l := l) fun c hc => h c (by simp [hc])]
theorem shrM_congr {gs:List Nat} {n:Nat} {a b:List Nat} (h:∀ k,k < 4 * n → k / 4 ∉ gs → a.getD k 0 = b.getD k 0):Pl.shrM gs n a = Pl.shrM gs n b := by
 unfold Pl.shrM
 refine flat_congr fun c hc => ?_
 have hn:=Pl.mem_left hc
 have hg:c ∉ gs:=by
  unfold Pl.left at hc
  have:=(List.mem_filter.1 hc).2
  simpa using this
 unfold Pl.four
 simp only []
 rw [h (4 * c) (by omega) (by rw [show 4 * c / 4 = c by omega]; exact hg),h (4 * c + 1) (by omega) (by rw [show (4 * c + 1) / 4 = c by omega]; exact hg),h (4 * c + 2) (by omega) (by rw [show (4 * c + 2) / 4 = c by omega]; exact hg),h (4 * c + 3) (by omega) (by rw [show (4 * c + 3) / 4 = c by omega]; exact hg)]
def upM (d:Pl.Dg) (l:Ln):List Nat := clo (clo d.mt l.p3 l.q3) l.q0 l.p2
def upL (d:Pl.Dg) (l:Ln):Nat := d.lp + clk d.mt l.p3 l.q3 + clk (clo d.mt l.p3 l.q3) l.q0 l.p2
theorem unp_same {d:Pl.Dg} (hd:Pl.Wf d) {l:Ln} {x y:Nat} (hxy:x < y) (hy:y < d.n) (ha:l.p2 < 4 * d.n) (hb:l.q0 < 4 * d.n) (hc:l.p3 < 4 * d.n) (he:l.q3 < 4 * d.n)
 (ga:l.p2 / 4 = x ∨ l.p2 / 4 = y) (gb:l.q0 / 4 = x ∨ l.q0 / 4 = y) (gc:l.p3 / 4 = x ∨ l.p3 / 4 = y) (ge:l.q3 / 4 = x ∨ l.q3 / 4 = y)
 (d1:l.p2 ≠ l.q0) (d2:l.p2 ≠ l.p3) (d3:l.p2 ≠ l.q3) (d4:l.q0 ≠ l.p3) (d5:l.q0 ≠ l.q3) (d6:l.p3 ≠ l.q3) :
 unpDl d l x y = ⟨Pl.shrS [x] (Pl.shrS [y] d.sg),Pl.shrM [x] (d.n - 1) (Pl.shrM [y] d.n (upM d l)),upL d l⟩:=by
 have hl:=hd.len
 have hlt:∀ k,k < d.mt.length → d.mt.getD k 0 < d.mt.length:=fun k hk => by
  rw [m_get0 hd (by omega),hl]; exact hd.lt k (by omega)
 have hinv:∀ k,k < d.mt.length → d.mt.getD (d.mt.getD k 0) 0 = k:=fun k hk => by
  rw [m_get0 hd (show k < 4 * d.n by omega),m_get0 hd (hd.lt k (by omega)),hd.inv k (by omega)]
 have hne:∀ k,k < d.mt.length → d.mt.getD k 0 ≠ k:=fun k hk => by
  rw [m_get0 hd (by omega)]; exact hd.ne k (by omega)
 have hlp:=clo_comm hlt hinv (a := l.p2) (b := l.q0) (c := l.p3) (e := l.q3) (by omega) (by omega) (by omega) (by omega) d1 d2 d3 d4 d5 d6
 have hM:Pl.shrM [x,y] d.n (unpB d l) = Pl.shrM [x,y] d.n (upM d l):=shrM_congr fun k hk hg => by
  simp only [List.mem_cons,List.not_mem_nil,or_false,not_or] at hg
  exact clo_same hlt hinv hne (by omega) (by omega) (by omega) (by omega) (by omega) d1 d2 d3 d4 d5 d6 (by omega) (by omega) (by omega) (by omega)
 have hS:Pl.shrS [x] (Pl.shrS [y] d.sg) = Pl.shrS [x,y] d.sg:=Pl.drop2_S hxy hy
 obtain ⟨N,hN⟩:∃ N,d.n = N + 1 := ⟨d.n - 1,by omega⟩
 have hM2:Pl.shrM [x] (d.n - 1) (Pl.shrM [y] d.n (upM d l)) = Pl.shrM [x,y] d.n (upM d l):=by
  rw [hN]
  exact Pl.drop2_M hxy (by omega)
 have hL:unpL d l = upL d l:=by
  unfold unpL upL
  have:unpA d l = clo d.mt l.p2 l.q0:=rfl
  rw [this]
  unfold clk at hlp
  unfold clk
  omega
 unfold unpDl
 rw [hM,hM2,hS,hL]
end Go.Proofs.Ytobbepmlmbbamaa
end
