/- The law, and its closed call awake. -/
import Derived.Test.YtaginlnifpbfgaaGreatDoorK0
import Derived.Test.YtaginlnifpbfgaaGreatDoorKP0
import Derived.Test.YtaginlnifpbfgaaGreatDoorKP1
import Derived.Test.YtaginlnifpbfgaaGreatDoorKP2
import Derived.Test.YtaginlnifpbfgaaGreatDoorKR220
import Derived.Test.YtaginlnifpbfgaaGreatDoorKR2050
import Derived.Test.YtaginlnifpbfgaaGreatDoorKR2051
import Derived.Test.YtaginlnifpbfgaaGreatDoorKR2052
import Derived.Test.YtaginlnifpbfgaaGreatDoorKR2053
import Derived.Test.YtaginlnifpbfgaaGreatDoorKR2054
import Derived.Test.YtaginlnifpbfgaaGreatDoorKR90
import Derived.Test.YtaginlnifpbfgaaGreatDoorKRun
import Derived.Test.YtaginlnifpbfgaaGreatDoorRows
set_option linter.unusedVariables false
set_option linter.unusedSimpArgs false
namespace Go.Proofs.YtaginlnifpbfgaaGreatDoor.K
open Go.Ex Go.RowKit
theorem Pd:(Tryz.prog.funcs.toList.all fun fn=> !(fn.name== "runtime.NumGoroutine"))=true:=by kernel_rfl
theorem iz:EE.Ok Tryz.prog:=by
 refine VV (by kernel_rfl) (fun fn h=>by simpa using List.all_eq_true.1 Pd fn h) (fun f hf x w=> ?_) (fun e u o h=> ?_) (by kernel_rfl) (fun δ nd h=>h.op) (fun w w' h hb=> ?_) (fun f hf args w=> ?_) (fun f t h=> ?_)
 ·obtain rfl:f=327:=by simpa using hf
  kernel_rfl
 ·rcases(by simpa using h:(e=296∧u=294∧o=0)∨(e=294∧u=294∧o=0)) with⟨rfl,rfl,rfl⟩|⟨rfl,rfl,rfl⟩<;>kernel_rfl
 ·refine⟨?_,fun g hg=> ?_⟩
  ·have h6:=hb 8 (by show 8<9;decide);have hs:9≤w.heap.size:=h.1;rw[Array.getElem?_eq_getElem (show 8<w.heap.size by omega)] at h6;have h7:=(Array.getElem?_eq_some_iff.1 h6).1;show 9≤_;omega
  ·rcases h.2 g hg with h1|⟨cs,es,h1,h2,e,fz,h3⟩
   ·exact .inl h1
   ·exact .inr ⟨cs,es,h1,h2,e,fz,(hb g hg).trans h3⟩
 ·obtain rfl:f=392:=by simpa using hf
  kernel_rfl
 ·obtain⟨rfl,rfl⟩:f=390∧t=22:=by simpa using h
  exact⟨#[],fun args w=>by kernel_rfl⟩
theorem vd:EE.Seq Tryz.prog sq:=Xl (by kernel_rfl)
theorem kZ.size{w:World}(h:kZ w):yI.length≤w.heap.size:=h.1
theorem pk:fG Tryz.prog EE Kx:=Bf iz vd (aW1 _ _) _ _
theorem pn:∀w,kZ w→yI.length≤w.heap.size∧Bo yI w:=fun w h=>h
theorem ky:fG Tryz.prog EE BT:=Bf iz vd (eL (pq iz (pr pk rfl pn pW)) (eL (pq iz (pr pk rfl pn yB)) (pq iz (pr pk rfl pn aY)))) _ _
theorem OV:fG Tryz.prog EE ac4:=Bf iz vd (eL (eL (pq iz (pr pk rfl pn pW)) (eL (pq iz (pr pk rfl pn yB)) (pq iz (pr pk rfl pn aY)))) (eL (dP.ok ky bU6) (eL (dP.ok ky Kr) (eL (dP.ok ky Kq) (eL (dP.ok ky Kp) (eL (dP.ok ky Ko) (dP.ok ky Kn))))))) _ _
theorem Wa:fG Tryz.prog EE ac3:=Bf iz vd (eL (eL (pq iz (pr pk rfl pn pW)) (eL (pq iz (pr pk rfl pn yB)) (pq iz (pr pk rfl pn aY)))) (dP.ok OV SR)) _ _
abbrev pz:List (String×DataW Unit):=[("math/bits.deBruijn32tab",Rows.laid_math_bits_deBruijn32tab),("math/bits.deBruijn64tab",Rows.laid_math_bits_deBruijn64tab),("internal/strconv.uint64pow10",Rows.laid_internal_strconv_uint64pow10),("rootcause/digest.constants",Rows.laid_rootcause_digest_constants),("rootcause/lexer.words",Rows.laid_rootcause_lexer_words),("rootcause/lexer.symbols",Rows.laid_rootcause_lexer_symbols),("rootcause/syntax.shapes",Rows.laid_rootcause_syntax_shapes),("rootcause/syntax.forms",Rows.laid_rootcause_syntax_forms),("rootcause/code.rows",Rows.laid_rootcause_code_rows)]
noncomputable def iw(b:Option ao):List xM:=match b with|some ⟨.cells cs,_,_,_,_⟩=>cs|_=>[]
theorem wa:(pz.all fun x=>x.2.handleName?.isNone)=true:=by kernel_rfl
section
variable{w:World}(h:laidMetH Tryz.prog pz w)
include h
theorem g0:∃e fz,w.heap[0]? =some (.cells ⟨iw Na⟩ e fz):=wb h wa 4 (n:= "rootcause/lexer.symbols") (d:=Rows.laid_rootcause_lexer_symbols) (t:=(Tryz.prog.globals[0]?.map (·.type)).getD 0) (by simp[pz]) (by kernel_rfl) (by kernel_rfl) (by kernel_rfl)
theorem g1:∃e fz,w.heap[1]? =some (.cells ⟨iw M'⟩ e fz):=wb h wa 4 (n:= "rootcause/digest.constants") (d:=Rows.laid_rootcause_digest_constants) (t:=(Tryz.prog.globals[1]?.map (·.type)).getD 0) (by simp[pz]) (by kernel_rfl) (by kernel_rfl) (by kernel_rfl)
theorem g2:∃e fz,w.heap[2]? =some (.cells ⟨iw M9⟩ e fz):=wb h wa 4 (n:= "rootcause/lexer.words") (d:=Rows.laid_rootcause_lexer_words) (t:=(Tryz.prog.globals[2]?.map (·.type)).getD 0) (by simp[pz]) (by kernel_rfl) (by kernel_rfl) (by kernel_rfl)
theorem g3:∃e fz,w.heap[3]? =some (.cells ⟨iw M8⟩ e fz):=wb h wa 4 (n:= "rootcause/syntax.forms") (d:=Rows.laid_rootcause_syntax_forms) (t:=(Tryz.prog.globals[3]?.map (·.type)).getD 0) (by simp[pz]) (by kernel_rfl) (by kernel_rfl) (by kernel_rfl)
theorem g4:∃e fz,w.heap[4]? =some (.cells ⟨iw M7⟩ e fz):=wb h wa 4 (n:= "rootcause/code.rows") (d:=Rows.laid_rootcause_code_rows) (t:=(Tryz.prog.globals[4]?.map (·.type)).getD 0) (by simp[pz]) (by kernel_rfl) (by kernel_rfl) (by kernel_rfl)
theorem g5:∃e fz,w.heap[5]? =some (.cells ⟨iw M6⟩ e fz):=wb h wa 4 (n:= "rootcause/syntax.shapes") (d:=Rows.laid_rootcause_syntax_shapes) (t:=(Tryz.prog.globals[5]?.map (·.type)).getD 0) (by simp[pz]) (by kernel_rfl) (by kernel_rfl) (by kernel_rfl)
theorem g6:∃e fz,w.heap[6]? =some (.cells ⟨iw M5⟩ e fz):=wb h wa 4 (n:= "internal/strconv.uint64pow10") (d:=Rows.laid_internal_strconv_uint64pow10) (t:=(Tryz.prog.globals[6]?.map (·.type)).getD 0) (by simp[pz]) (by kernel_rfl) (by kernel_rfl) (by kernel_rfl)
theorem g7:∃e fz,w.heap[7]? =some (.cells ⟨iw M4⟩ e fz):=wb h wa 4 (n:= "math/bits.deBruijn32tab") (d:=Rows.laid_math_bits_deBruijn32tab) (t:=(Tryz.prog.globals[7]?.map (·.type)).getD 0) (by simp[pz]) (by kernel_rfl) (by kernel_rfl) (by kernel_rfl)
theorem g8:∃e fz,w.heap[8]? =some (.cells ⟨iw M3⟩ e fz):=wb h wa 4 (n:= "math/bits.deBruijn64tab") (d:=Rows.laid_math_bits_deBruijn64tab) (t:=(Tryz.prog.globals[8]?.map (·.type)).getD 0) (by simp[pz]) (by kernel_rfl) (by kernel_rfl) (by kernel_rfl)
theorem bR0:kZ w:=⟨(by obtain⟨e,fz,h6⟩:=g8 h;exact(Array.getElem?_eq_some_iff.1 h6).1),fun g hg=>by
 match g,hg with
 |0,_=>exact .inr ⟨_,_,rfl,by kernel_rfl,g0 h⟩
 |1,_=>exact .inr ⟨_,_,rfl,by kernel_rfl,g1 h⟩
 |2,_=>exact .inr ⟨_,_,rfl,by kernel_rfl,g2 h⟩
 |3,_=>exact .inr ⟨_,_,rfl,by kernel_rfl,g3 h⟩
 |4,_=>exact .inr ⟨_,_,rfl,by kernel_rfl,g4 h⟩
 |5,_=>exact .inr ⟨_,_,rfl,by kernel_rfl,g5 h⟩
 |6,_=>exact .inr ⟨_,_,rfl,by kernel_rfl,g6 h⟩
 |7,_=>exact .inr ⟨_,_,rfl,by kernel_rfl,g7 h⟩
 |8,_=>exact .inr ⟨_,_,rfl,by kernel_rfl,g8 h⟩
 |n+9,hg=>exact absurd hg (by simp)⟩
end
theorem kZ.ext{w w':World}(h:kZ w)(hb:Below w.heap.size w w'):kZ w':=⟨xH h.1 hb.size,fun g hg=>by
 rcases h.2 g hg with h1|⟨cs,es,h1,h2,e,fz,h3⟩
 ·exact .inl h1
 ·exact .inr ⟨cs,es,h1,h2,e,fz,by rw[hb.block g (Array.getElem?_eq_some_iff.1 h3).1];exact h3⟩⟩
theorem Vd{w:World}(h:kZ w):Calls Tryz.prog 4 #[] w fun e w'=>e= .returned (.bool true)∧Below w.heap.size w w':=
 aJ3 Wa aJ (Of (k:=12) (L:=yI) h.2 GG.Q GG.L (fun _=>none) (fun _=>none) [] h h.1 (fun b cs h=>by cases h) (fun nd h=>by cases h)) (fun k h=>h)
#print axioms Vd
end Go.Proofs.YtaginlnifpbfgaaGreatDoor.K
