/- The law, and its closed call awake. -/
import Derived.Test.YtnjdjocokegphaaGreatDoorK0
import Derived.Test.YtnjdjocokegphaaGreatDoorKP0
import Derived.Test.YtnjdjocokegphaaGreatDoorKP1
import Derived.Test.YtnjdjocokegphaaGreatDoorKR220
import Derived.Test.YtnjdjocokegphaaGreatDoorKR1610
import Derived.Test.YtnjdjocokegphaaGreatDoorKR1611
import Derived.Test.YtnjdjocokegphaaGreatDoorKR1612
import Derived.Test.YtnjdjocokegphaaGreatDoorKR90
import Derived.Test.YtnjdjocokegphaaGreatDoorKR120
import Derived.Test.YtnjdjocokegphaaGreatDoorKR121
import Derived.Test.YtnjdjocokegphaaGreatDoorKRun
import Derived.Test.YtnjdjocokegphaaGreatDoorRows
set_option linter.unusedVariables false
set_option linter.unusedSimpArgs false
namespace Go.Proofs.YtnjdjocokegphaaGreatDoor.K
open Go.Ex Go.RowKit
theorem Pp:(Tryz.prog.funcs.toList.all fun fn=> !(fn.name== "runtime.NumGoroutine"))=true:=by kernel_rfl
theorem kX:EE.Ok Tryz.prog:=by
 refine WV (by kernel_rfl) (fun fn h=>by simpa using List.all_eq_true.1 Pp fn h) (fun f hf x w=> ?_) (fun e u o h=> ?_) (by kernel_rfl) (fun δ nd h=>h.op) (fun w w' h hb=> ?_) (fun f hf args w=> ?_) (fun f t h=> ?_)
 ·obtain rfl:f=302:=by simpa using hf
  kernel_rfl
 ·rcases(by simpa using h:(e=230∧u=228∧o=0)∨(e=228∧u=228∧o=0)) with⟨rfl,rfl,rfl⟩|⟨rfl,rfl,rfl⟩<;>kernel_rfl
 ·refine⟨?_,fun g hg=> ?_⟩
  ·have h6:=hb 6 (by show 6<7;decide);have hs:7≤w.heap.size:=h.1;rw[Array.getElem?_eq_getElem (show 6<w.heap.size by omega)] at h6;have h7:=(Array.getElem?_eq_some_iff.1 h6).1;show 7≤_;omega
  ·rcases h.2 g hg with h1|⟨cs,es,h1,h2,e,fz,h3⟩
   ·exact .inl h1
   ·exact .inr ⟨cs,es,h1,h2,e,fz,(hb g hg).trans h3⟩
 ·obtain rfl:f=435:=by simpa using hf
  kernel_rfl
 ·obtain⟨rfl,rfl⟩:f=333∧t=22:=by simpa using h
  exact⟨#[],fun args w=>by kernel_rfl⟩
theorem vg:EE.Seq Tryz.prog sq:=Yt (by kernel_rfl)
theorem kA.size{w:World}(h:kA w):zz.length≤w.heap.size:=h.1
theorem wW:fN Tryz.prog EE Qt:=Cg kX vg (bj0 _ _) _ _
theorem xS:∀w,kA w→zz.length≤w.heap.size∧zZ zz w:=fun w h=>h
theorem I5:fN Tryz.prog EE GZ:=Cg kX vg (p6 (xY kX (x9 wW rfl xS o7)) (xY kX (x9 wW rfl xS zh))) _ _
theorem Xb:fN Tryz.prog EE ao6:=Cg kX vg (p6 (p6 (xY kX (x9 wW rfl xS o7)) (xY kX (x9 wW rfl xS zh))) (p6 (jw.ok I5 cp0) (p6 (jw.ok I5 bF7) (p6 (jw.ok I5 bF6) (jw.ok I5 bF5))))) _ _
theorem Xa:fN Tryz.prog EE R1:=Cg kX vg (p6 (p6 (xY kX (x9 wW rfl xS o7)) (xY kX (x9 wW rfl xS zh))) (jw.ok Xb aI8)) _ _
theorem bn2:fN Tryz.prog EE ao5:=Cg kX vg (p6 (p6 (xY kX (x9 wW rfl xS o7)) (xY kX (x9 wW rfl xS zh))) (p6 (jw.ok Xa cp2) (p6 (jw.ok Xa cp1) (jw.ok Xb aI8)))) _ _
abbrev qi:List (String×DataW Unit):=[("math/bits.deBruijn32tab",Rows.laid_math_bits_deBruijn32tab),("math/bits.deBruijn64tab",Rows.laid_math_bits_deBruijn64tab),("rootcause/digest.constants",Rows.laid_rootcause_digest_constants),("rootcause/lexer.words",Rows.laid_rootcause_lexer_words),("rootcause/lexer.symbols",Rows.laid_rootcause_lexer_symbols),("rootcause/syntax.shapes",Rows.laid_rootcause_syntax_shapes),("rootcause/syntax.forms",Rows.laid_rootcause_syntax_forms),("rootcause/code.rows",Rows.laid_rootcause_code_rows)]
noncomputable def iP(b:Option ap):List xM:=match b with|some ⟨.cells cs,_,_,_,_⟩=>cs|_=>[]
theorem BL:(qi.all fun x=>x.2.handleName?.isNone)=true:=by kernel_rfl
section
variable{w:World}(h:laidMetH Tryz.prog qi w)
include h
theorem g0:∃e fz,w.heap[0]? =some (.cells ⟨iP Nr⟩ e fz):=BM h BL 4 (n:= "rootcause/lexer.symbols") (d:=Rows.laid_rootcause_lexer_symbols) (t:=(Tryz.prog.globals[0]?.map (·.type)).getD 0) (by simp[qi]) (by kernel_rfl) (by kernel_rfl) (by kernel_rfl)
theorem g1:∃e fz,w.heap[1]? =some (.cells ⟨iP Nq⟩ e fz):=BM h BL 4 (n:= "rootcause/digest.constants") (d:=Rows.laid_rootcause_digest_constants) (t:=(Tryz.prog.globals[1]?.map (·.type)).getD 0) (by simp[qi]) (by kernel_rfl) (by kernel_rfl) (by kernel_rfl)
theorem g2:∃e fz,w.heap[2]? =some (.cells ⟨iP Np⟩ e fz):=BM h BL 4 (n:= "rootcause/lexer.words") (d:=Rows.laid_rootcause_lexer_words) (t:=(Tryz.prog.globals[2]?.map (·.type)).getD 0) (by simp[qi]) (by kernel_rfl) (by kernel_rfl) (by kernel_rfl)
theorem g3:∃e fz,w.heap[3]? =some (.cells ⟨iP No⟩ e fz):=BM h BL 4 (n:= "rootcause/syntax.forms") (d:=Rows.laid_rootcause_syntax_forms) (t:=(Tryz.prog.globals[3]?.map (·.type)).getD 0) (by simp[qi]) (by kernel_rfl) (by kernel_rfl) (by kernel_rfl)
theorem g5:∃e fz,w.heap[5]? =some (.cells ⟨iP Nn⟩ e fz):=BM h BL 4 (n:= "rootcause/syntax.shapes") (d:=Rows.laid_rootcause_syntax_shapes) (t:=(Tryz.prog.globals[5]?.map (·.type)).getD 0) (by simp[qi]) (by kernel_rfl) (by kernel_rfl) (by kernel_rfl)
theorem g6:∃e fz,w.heap[6]? =some (.cells ⟨iP Nm⟩ e fz):=BM h BL 4 (n:= "rootcause/code.rows") (d:=Rows.laid_rootcause_code_rows) (t:=(Tryz.prog.globals[6]?.map (·.type)).getD 0) (by simp[qi]) (by kernel_rfl) (by kernel_rfl) (by kernel_rfl)
theorem cl6:kA w:=⟨(by obtain⟨e,fz,h6⟩:=g6 h;exact(Array.getElem?_eq_some_iff.1 h6).1),fun g hg=>by
 match g,hg with
 |0,_=>exact .inr ⟨_,_,rfl,by kernel_rfl,g0 h⟩
 |1,_=>exact .inr ⟨_,_,rfl,by kernel_rfl,g1 h⟩
 |2,_=>exact .inr ⟨_,_,rfl,by kernel_rfl,g2 h⟩
 |3,_=>exact .inr ⟨_,_,rfl,by kernel_rfl,g3 h⟩
 |4,_=>exact .inl rfl
 |5,_=>exact .inr ⟨_,_,rfl,by kernel_rfl,g5 h⟩
 |6,_=>exact .inr ⟨_,_,rfl,by kernel_rfl,g6 h⟩
 |n+7,hg=>exact absurd hg (by simp)⟩
end
theorem kA.ext{w w':World}(h:kA w)(hb:Below w.heap.size w w'):kA w':=⟨xH h.1 hb.size,fun g hg=>by
 rcases h.2 g hg with h1|⟨cs,es,h1,h2,e,fz,h3⟩
 ·exact .inl h1
 ·exact .inr ⟨cs,es,h1,h2,e,fz,by rw[hb.block g (Array.getElem?_eq_some_iff.1 h3).1];exact h3⟩⟩
theorem V6{w:World}(h:kA w):Calls Tryz.prog 4 #[] w fun e w'=>e= .returned (.bool true)∧Below w.heap.size w w':=
 aW6 bn2 aM (Oz (k:=13) (L:=zz) h.2 GG.Q GG.L (fun _=>none) (fun _=>none) [] h h.1 (fun b cs h=>by cases h) (fun nd h=>by cases h)) (fun k h=>h)
#print axioms V6
end Go.Proofs.YtnjdjocokegphaaGreatDoor.K
