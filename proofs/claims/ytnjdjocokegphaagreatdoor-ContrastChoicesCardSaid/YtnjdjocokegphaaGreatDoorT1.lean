/- Functions as programs on data, and their checks. -/
import Derived.Test.YtnjdjocokegphaaGreatDoorT0
set_option linter.unusedVariables false
set_option linter.unusedSimpArgs false
namespace Go.Proofs.YtnjdjocokegphaaGreatDoor
open Go.Ex Go.RowKit Go.T
abbrev LG:List (Option ap):=[gb0,BB,gb2,gb3,gb4,gb5,gb6]
def kA(w:World):Prop:=zZ LG w
def GG:GP:=⟨LG.length,NQ Tryz.prog kA 8 LG S,kA⟩
noncomputable def EE:av:=QS Tryz.prog GG [302] [(230,228,0),(228,228,0)] [] [(333,22)]
noncomputable def call:cL→List xM→AW→aZ xM:=qC EE sq (tQ EE sq) (L8 LG 8 S) 100000 60
noncomputable def bL(n:Nat):List Oper→Fr→AW→aZ Fr:=PD EE (tQ EE sq call n)
theorem Pp:(Tryz.prog.funcs.toList.all fun fn=> !(fn.name== "runtime.NumGoroutine"))=true:=by kernel_rfl
theorem kX:EE.Ok Tryz.prog:=by
 refine WV (by kernel_rfl) (fun fn h=>by simpa using List.all_eq_true.1 Pp fn h) (fun f hf x w=> ?_) (fun e u o h=> ?_) (by kernel_rfl) (fun δ nd h=>h.1) (fun w w' h hb g hg=> ?_) (fun f hf args w=> ?_) (fun f t h=> ?_)
 ·obtain rfl:f=302:=by simpa using hf
  kernel_rfl
 ·rcases(by simpa using h:(e=230∧u=228∧o=0)∨(e=228∧u=228∧o=0)) with⟨rfl,rfl,rfl⟩|⟨rfl,rfl,rfl⟩<;>kernel_rfl
 ·rcases h g hg with h1|⟨cs,es,h1,h2,e,fz,h3⟩
  ·exact .inl h1
  ·exact .inr ⟨cs,es,h1,h2,e,fz,(hb g hg).trans h3⟩
 ·simp at hf
 ·obtain⟨rfl,rfl⟩:f=333∧t=22:=by simpa using h
  exact⟨#[],fun args w=>by kernel_rfl⟩
theorem vg:EE.Seq Tryz.prog sq:=Yt (by kernel_rfl)
def Z0(b:Option ap):Bool:=match b with|some ⟨.cells cs,_,false,true,ty⟩=>cs.all yM&&ty==jY|none=>true|_=>false
theorem aa8:G2 LG:=fun g hg=>by
 have hb:LG.all Z0=true:=by kernel_rfl
 have h1:=List.all_eq_true.1 hb (LG[g]) (List.getElem_mem hg);unfold Z0 at h1;split at h1
 ·rename_i cs es ty he;rw[xf] at h1;obtain rfl:ty=jY:=by simpa using h1.2
  exact .inr ⟨cs,es,by rw[xc hg,he],h1.1⟩
 ·rename_i he;exact .inl (by rw[xc hg,he])
 ·cases h1
theorem hGE:EE.G=⟨LG.length,NQ Tryz.prog kA 8 LG S,kA⟩:=rfl
theorem bB5:fN Tryz.prog EE (L8 LG 8 S):=br2 kX hGE aa8 (fun _ _ g i hk h=>h.2 g i hk)
theorem Yf:fN Tryz.prog EE call:=Cg kX vg bB5 _ _
theorem bl7(n:Nat):tE Tryz.prog EE n (bL n):=aZ0 kX (Ya kX vg Yf n)
abbrev bI(fd:FD)(h:Nat):Prop:=LO EE sq call bL 100000 8 LG S fd (fd.hs.getD h ⟨[],⟨[],[]⟩,0⟩) (fd.sZ.getD h .stop)
abbrev aJ(fd:FD):Prop:=FOk EE sq call bL 100000 8 LG Tryz.prog S fd
theorem kC{fd:FD}{h:Nat}(h1:(kU S (fd.sZ.getD h .stop)&&Nat.ble fd.sg.nob (fd.hs.getD h ⟨[],⟨[],[]⟩,0⟩).T.hp.length)=true:=by kernel_rfl)(h2:pn (Tf EE sq call bL 100000 8 LG fd (fd.hs.getD h ⟨[],⟨[],[]⟩,0⟩)) (az2 EE sq call bL 100000 8 LG fd (fd.hs.getD h ⟨[],⟨[],[]⟩,0⟩)) (fd.sZ.getD h .stop) (fd.hs.getD h ⟨[],⟨[],[]⟩,0⟩).m []=pA (T2 fd) (fd.sZ.getD h .stop):=by kernel_rfl):bI fd h:=by
 rw[xf] at h1;exact⟨h1.1,xh h1.2,h2⟩
theorem aK{fd:FD}{b:Code}{m n:Nat}(h5:Hy (bI fd) n 0)(h2:fd.hs[0]? =some ⟨[.code b],⟨vY fd.sg.args,fd.sg.hp⟩,m⟩:=by exact rfl)(h1:(Tryz.prog.funcs[fd.f]?).map (fun fn=>(fn.body,fn.ntmps,fn.results))=some (some b,fd.n,⟨fd.rs⟩):=by kernel_rfl)(h3:Nat.ble fd.sg.args.length fd.n=true:=by exact rfl)(h4:fd.hs.length=n:=by exact rfl):aJ fd:=by
 obtain⟨fn,h6,h7⟩:=xp.1 h1;injection h7 with h8 h9;injection h9 with h9 nU;exact⟨⟨fn,b,h6,h8,h9,nU,m,h2⟩,xh h3,bq3 n h4 fun h hh=>h5.get h hh⟩
end Go.Proofs.YtnjdjocokegphaaGreatDoor
