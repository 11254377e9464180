/- The law, and its closed call awake. -/
import Derived.Test.YthicpeihkkokmaaGreatDoorT1
import Derived.Test.YthicpeihkkokmaaGreatDoorX8
import Derived.Test.YthicpeihkkokmaaGreatDoorRows
import Derived.KernelRfl
import Derived.Test.YthicpeihkkokmaaGreatDoorP10
import Derived.Test.YthicpeihkkokmaaGreatDoorX10
import Derived.Test.YthicpeihkkokmaaGreatDoorT2
import Derived.Test.YthicpeihkkokmaaGreatDoorT3
import Derived.Test.YthicpeihkkokmaaGreatDoorT4
import Derived.Test.YthicpeihkkokmaaGreatDoorT5
import Derived.Test.YthicpeihkkokmaaGreatDoorT6
import Derived.Test.YthicpeihkkokmaaGreatDoorT7
import Derived.Test.YthicpeihkkokmaaGreatDoorT8
import Derived.Test.YthicpeihkkokmaaGreatDoorP1
import Derived.Test.YthicpeihkkokmaaGreatDoorX11
set_option linter.unusedVariables false
set_option linter.unusedSimpArgs false
namespace Go.Proofs.YthicpeihkkokmaaGreatDoor
open Go.Ex Go.RowKit
abbrev pq:List (String×DataW Unit):=[("math/bits.deBruijn32tab",Rows.laid_math_bits_deBruijn32tab),("math/bits.deBruijn64tab",Rows.laid_math_bits_deBruijn64tab),("internal/strconv.uint64pow10",Rows.laid_internal_strconv_uint64pow10),("rootcause/digest.constants",Rows.laid_rootcause_digest_constants),("rootcause/lexer.words",Rows.laid_rootcause_lexer_words),("rootcause/lexer.symbols",Rows.laid_rootcause_lexer_symbols),("rootcause/syntax.shapes",Rows.laid_rootcause_syntax_shapes),("rootcause/syntax.forms",Rows.laid_rootcause_syntax_forms),("rootcause/code.rows",Rows.laid_rootcause_code_rows)]
noncomputable def jw(b:Option aE):kM:=match b with|some ⟨.cells cs,_,_,_,_⟩=>cs|_=>[]
theorem vO:(pq.all fun x=>x.2.handleName?.isNone)=true:=by kernel_rfl
section
variable{w:World}(h:laidMetH Tryz.prog pq w)
include h
theorem lg0:∃e fz,w.heap[0]? =some (.cells ⟨jw C0⟩ e fz):=vP h vO 4 (n:= "rootcause/digest.constants") (d:=Rows.laid_rootcause_digest_constants) (t:=(Tryz.prog.globals[0]?.map (·.type)).getD 0) (by simp[pq]) (by kernel_rfl) (by kernel_rfl) (by kernel_rfl)
theorem lg1:∃e fz,w.heap[1]? =some (.cells ⟨jw gb1⟩ e fz):=vP h vO 4 (n:= "rootcause/lexer.symbols") (d:=Rows.laid_rootcause_lexer_symbols) (t:=(Tryz.prog.globals[1]?.map (·.type)).getD 0) (by simp[pq]) (by kernel_rfl) (by kernel_rfl) (by kernel_rfl)
theorem lg2:∃e fz,w.heap[2]? =some (.cells ⟨jw gb2⟩ e fz):=vP h vO 4 (n:= "rootcause/lexer.words") (d:=Rows.laid_rootcause_lexer_words) (t:=(Tryz.prog.globals[2]?.map (·.type)).getD 0) (by simp[pq]) (by kernel_rfl) (by kernel_rfl) (by kernel_rfl)
theorem lg3:∃e fz,w.heap[3]? =some (.cells ⟨jw gb3⟩ e fz):=vP h vO 4 (n:= "rootcause/syntax.forms") (d:=Rows.laid_rootcause_syntax_forms) (t:=(Tryz.prog.globals[3]?.map (·.type)).getD 0) (by simp[pq]) (by kernel_rfl) (by kernel_rfl) (by kernel_rfl)
theorem lg4:∃e fz,w.heap[4]? =some (.cells ⟨jw gb4⟩ e fz):=vP h vO 4 (n:= "rootcause/code.rows") (d:=Rows.laid_rootcause_code_rows) (t:=(Tryz.prog.globals[4]?.map (·.type)).getD 0) (by simp[pq]) (by kernel_rfl) (by kernel_rfl) (by kernel_rfl)
theorem lg5:∃e fz,w.heap[5]? =some (.cells ⟨jw gb5⟩ e fz):=vP h vO 4 (n:= "internal/strconv.uint64pow10") (d:=Rows.laid_internal_strconv_uint64pow10) (t:=(Tryz.prog.globals[5]?.map (·.type)).getD 0) (by simp[pq]) (by kernel_rfl) (by kernel_rfl) (by kernel_rfl)
theorem lg6:∃e fz,w.heap[6]? =some (.cells ⟨jw gb6⟩ e fz):=vP h vO 4 (n:= "rootcause/syntax.shapes") (d:=Rows.laid_rootcause_syntax_shapes) (t:=(Tryz.prog.globals[6]?.map (·.type)).getD 0) (by simp[pq]) (by kernel_rfl) (by kernel_rfl) (by kernel_rfl)
theorem lg7:∃e fz,w.heap[7]? =some (.cells ⟨jw gb7⟩ e fz):=vP h vO 4 (n:= "math/bits.deBruijn32tab") (d:=Rows.laid_math_bits_deBruijn32tab) (t:=(Tryz.prog.globals[7]?.map (·.type)).getD 0) (by simp[pq]) (by kernel_rfl) (by kernel_rfl) (by kernel_rfl)
theorem lg8:∃e fz,w.heap[8]? =some (.cells ⟨jw gb8⟩ e fz):=vP h vO 4 (n:= "math/bits.deBruijn64tab") (d:=Rows.laid_math_bits_deBruijn64tab) (t:=(Tryz.prog.globals[8]?.map (·.type)).getD 0) (by simp[pq]) (by kernel_rfl) (by kernel_rfl) (by kernel_rfl)
theorem bt9:LG.length<=w.heap.size:=by obtain⟨e,fz,h6⟩:=lg8 h;exact(Array.getElem?_eq_some_iff.1 h6).1
theorem bu0:BO w:=fun g hg=>by
 match g,hg with
 |0,_=>exact .inr ⟨_,_,rfl,by kernel_rfl,lg0 h⟩
 |1,_=>exact .inr ⟨_,_,rfl,by kernel_rfl,lg1 h⟩
 |2,_=>exact .inr ⟨_,_,rfl,by kernel_rfl,lg2 h⟩
 |3,_=>exact .inr ⟨_,_,rfl,by kernel_rfl,lg3 h⟩
 |4,_=>exact .inr ⟨_,_,rfl,by kernel_rfl,lg4 h⟩
 |5,_=>exact .inr ⟨_,_,rfl,by kernel_rfl,lg5 h⟩
 |6,_=>exact .inr ⟨_,_,rfl,by kernel_rfl,lg6 h⟩
 |7,_=>exact .inr ⟨_,_,rfl,by kernel_rfl,lg7 h⟩
 |8,_=>exact .inr ⟨_,_,rfl,by kernel_rfl,lg8 h⟩
 |n+9,hg=>exact absurd hg P6
end
open Go.Ex Go.RowKit Go.Fl
theorem br3{n:Int}(h:(Lit.int .u8 n).wf=true):∃b:UInt8,D.int .u8 n=bD b.toNat:=by
 have h1:0<=n/\n<=255:=by
  have:=h;simp only [Lit.wf,xf,decide_eq_true_eq] at this;have h1:IntKind.min .u8=0:=RZ
  have h2:IntKind.max .u8=255:=RZ
  rw[h1,h2] at this;exact this
 refine⟨UInt8.ofNat n.toNat,?_⟩;show D.int .u8 n=D.int .u8 (((UInt8.ofNat n.toNat).toNat:Nat):Int);rw[UInt8.toNat_ofNat']
 congr 1
 omega
section
variable{ds:kG}
theorem Iw(h:TR Tryz.prog 5 ds):∃b:UInt8,ds=[bD b.toNat]:=by
 obtain⟨n,rfl,hn⟩:=h.aZ4 Tryz.underlying5;obtain⟨b,hb⟩:=br3 hn;exact⟨b,by rw[hb]⟩
theorem Y5(h:TR Tryz.prog 22 ds):∃l:yy,ds=[.sl (bV l)]:=by
 obtain⟨rows,rfl,_,hr⟩:=h.Ow Tryz.underlying22;obtain⟨l,rfl⟩:=Kb (f:=fun b:UInt8=>[D.int .u8 (b.toNat:Nat)]) fun row hm=>Iw (hr row hm)
 exact⟨l,rfl⟩
theorem bq3(h:TR Tryz.prog 151 ds):∃c:Cd,ds=c.d:=by
 obtain⟨a,r,rfl,h1,h⟩:=(h.N7 Tryz.underlying151).cons_inv;obtain⟨b,r,rfl,h2,h⟩:=h.cons_inv;obtain rfl:=h.PL;obtain⟨x,rfl⟩:=Iw h1;obtain⟨l,rfl⟩:=Y5 h2;exact⟨⟨x,l⟩,rfl⟩
theorem Y4(h:TR Tryz.prog 135 ds):∃l:List Cd,ds=[.sl (l.map Cd.d)]:=by
 obtain⟨rows,rfl,_,hr⟩:=h.Ow Tryz.underlying135;obtain⟨l,rfl⟩:=Kb (f:=Cd.d) fun row hm=>bq3 (hr row hm)
 exact⟨l,rfl⟩
theorem bq2(h:TR Tryz.prog 137 ds):∃p:Pt,ds=p.d:=by
 obtain⟨a,r,rfl,h1,h⟩:=(h.N7 Tryz.underlying137).cons_inv;obtain⟨b,r,rfl,h2,h⟩:=h.cons_inv;obtain⟨c,r,rfl,h3,h⟩:=h.cons_inv;obtain⟨d,r,rfl,h4,h⟩:=h.cons_inv;obtain rfl:=h.PL;obtain⟨x,rfl⟩:=Iw h1;obtain⟨y,rfl⟩:=Iw h2;obtain⟨l,rfl⟩:=Y4 h3;obtain⟨m,rfl⟩:=Y4 h4;exact⟨⟨x,y,l,m⟩,rfl⟩
theorem bq1(h:TR Tryz.prog 25 ds):∃p:vc,ds=p.d:=by
 obtain⟨a,r,rfl,h1,h⟩:=(h.N7 Tryz.underlying25).cons_inv;obtain⟨b,r,rfl,h2,h⟩:=h.cons_inv;obtain⟨c,r,rfl,h3,h⟩:=h.cons_inv;obtain rfl:=h.PL;obtain⟨x,rfl⟩:=Iw h1;obtain⟨l,rfl⟩:=Y5 h2;obtain⟨rows,rfl,_,hr⟩:=h3.Ow Tryz.underlying23;obtain⟨m,rfl⟩:=Kb (f:=Pt.d) fun row hm=>bq2 (hr row hm)
 exact⟨⟨x,l,m⟩,rfl⟩
end
theorem be0:nK rJ F:= .app tg0 (.app tg2 (.app tg3 (.app tg4 (.app tg5 (.app tg6 (.app Kw (.app Ks (.app Jw (.app Ji (.app IU (.app IQ (.app IP (.app IE (.app It (.app Is (.app Ib (.app HI (.app Hm (.app Hk (.app Hg (.app FW (.app Fq (.app EK (.app D5 (.app CN (.app Bk (.app Ay (.app Am (.app Ai (.app y0 (.app ye (.app wm (.app tZ (.app sD (.app si (.app oh (.app n0 (.app np mH))))))))))))))))))))))))))))))))))))))
theorem bf0:∀(i:Nat) (fd:FD),F[i]? =some fd->rJ fd/\S[i]? =some (fd.f,fd.sg):=fun i fd h=>⟨be0.get i fd h,by rw[xx,h];rfl⟩
def XA:fm:=fun _ _=>none
theorem aY8(p:vc):Az Tryz.prog BO 9 LG 3 RI.sg p.d [.bool true]:=by
 obtain⟨o,h,rfl⟩:=av0 (X:=XA) p;obtain⟨n,h⟩:=(AR F XA).1 h;exact(GC Hb Ra hGE ab5 Y1 aQ5 bf0 (fun _ _ _ _ _ h=>by unfold XA at h;cases h) n 160).2 _ _ _ _ h rfl
theorem aO6{w:World}(h:BO w)(hz:LG.length<=w.heap.size)(p:vc){xs:kM}(hx:tu w p.d xs):Calls Tryz.prog 3 #[.agg ⟨xs⟩] w fun e w'=>e= .returned (.bool true)/\Below w.heap.size w w':=by
 have lp:p.d.length=3:=rfl;refine ax3 (args':=[.agg ⟨xs⟩]) rfl rfl (aY8 p) h h hz ?_;have c1:aj (EH LG (fun c=>p.d[c]?) (zW w)) (.agg ⟨[cd 0,cd 1,cd 2]⟩) (.agg ⟨xs⟩):=
  bt3 (ds:=p.d) (a:=0) (n:=3) lp (fun i d v h1 h2=>⟨by
   show p.d[0+i]? =some d;rw[Nat.zero_add];exact h1,hx.2.1 d (xu h1),hx.2.2 i d v h1 h2⟩) hx.1 rfl
 exact .cons c1 (.nil _)
end Go.Proofs.YthicpeihkkokmaaGreatDoor
