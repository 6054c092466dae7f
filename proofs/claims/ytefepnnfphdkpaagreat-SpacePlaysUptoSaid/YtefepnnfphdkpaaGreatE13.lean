/- SpacePlays: a part of its proof; conditions: its statement's. -/
import Derived.Test.YtefepnnfphdkpaaGreatE11
import Derived.Test.YtefepnnfphdkpaaGreatE12
namespace Go.Proofs.YtefepnnfphdkpaaGreat.Am
open Go
def lB (h:H): Prop:=∀id o,T.get h.tr id=some o→id<h.next
theorem lB.new {h:H}(hw:lB h)(o:Obj): lB (h.new o):=by
 intro id q I
 rw [fA] at I
 show id<h.next+1
 split at I
 ·omega
 ·exact Nat.lt_succ_of_lt (hw id q I)
theorem lB.put {h:H}(hw:lB h){id:Nat}(J:id<h.next)(o:Option Obj): lB (h.put id o):=by
 intro j q I
 rw [bV] at I
 show j<h.next
 split at I
 ·omega
 ·exact hw j q I
structure dM (k:Nat)(S:List Nat)(h h':H): Prop where
 wf:lB h'
 le:h.next≤h'.next
 bd:h'.next≤h.next+k
 get:∀id,id<h.next→id∉S→T.get h'.tr id=T.get h.tr id
theorem dM.refl {h:H}(hw:lB h)(S:List Nat): dM 0 S h h:=⟨hw,aD _,aD _,fun _ _ _=>rfl⟩
theorem dM.trans {k k':Nat}{S S':List Nat}{h h' I:H}(a:dM k S h h')(b:dM k' S' h' I)(hs:∀i∈S',i∈S∨h.next≤i): dM (k+k') S h I:=by
 refine ⟨b.wf,cu a.le b.le,by have:=a.bd; have:=b.bd; omega,fun id J hn => ?_⟩
 rw [b.get id (ie J a.le) (fun hm => ?_),a.get id J hn]
 rcases hs id hm with h1 | h1
 ·exact hn h1
 ·omega
theorem dM.mono {k k':Nat}{S S':List Nat}{h h':H}(a:dM k S h h')(J:k≤k')(hs:∀i∈S,i∈S'): dM k' S' h h' :=
 ⟨a.wf,a.le,cu a.bd (yJ J _),fun id I hn=>a.get id I (fun hm=>hn (hs id hm))⟩
theorem dM.row {k:Nat}{S:List Nat}{h h':H}(a:dM k S h h')(hw:lB h){id:Nat}{o:Obj}(I:T.get h.tr id=some o)(J:id∉S): T.get h'.tr id=some o:=by
 rw [a.get id (hw id o I) J]; exact I
theorem dM.zy {h:H}(hw:lB h)(o:Obj): dM 1 [] h (h.new o) :=
 ⟨hw.new o,jh _,aD _,fun id I _=>by rw [fA,ah (by omega)]⟩
theorem dM.Qc {h:H}(hw:lB h){id:Nat}(I:id<h.next)(o:Option Obj): dM 0 [id] h (h.put id o) :=
 ⟨hw.put I o,aD _,aD _,fun j _ J=>by rw [bV,ah (fun e=>J (by simp [e]))]⟩
theorem cP (l:List Nat): (ofBytes l).length=l.length:=by simp [ofBytes]
theorem ux (l m:List Nat): ofBytes (l++m)=ofBytes l++ofBytes m:=by simp [ofBytes]
def View (h:H)(v:V)(l:List Nat): Prop:=(∀b∈l,b<256)∧(((v=.bu∨∃a,v=.sle a)∧l=[]) ∨
 ∃id off cap n cs st,v=.sl id off l.length cap∧T.get h.tr id=some (.cells n cs st)∧cs.length=n∧off+l.length≤n∧(cs.drop off).take l.length=ofBytes l ∧
  (match cap with | .exact c=>l.length≤c | .rest e _=>e=1))
def jv (h:H)(v:V)(l:List Nat): Prop:=(∀b∈l,b<256)∧((v=.bu∧l=[]) ∨
 (∃id cs c,v=.sl id 0 l.length (.exact c)∧T.get h.tr id=some (.cells c (ofBytes l++cs) false)∧l.length+cs.length=c) ∨
 (∃id,v=.sl id 0 l.length (.rest 1 0)∧T.get h.tr id=some (.cells l.length (ofBytes l) false)∧1≤l.length))
def rowIds : V→List Nat
 | .sl id _ _ _=>[id]
 | _=>[]
theorem jv.view {h:H}{v:V}{l:List Nat}(I:jv h v l): View h v l:=by
 obtain ⟨hl,I⟩:=I
 refine ⟨hl,?_⟩
 rcases I with I | ⟨id,cs,c,rfl,J,hc⟩ | ⟨id,rfl,J,h1⟩
 ·exact .inl ⟨.inl I.1,I.2⟩
 ·refine .inr ⟨id,0,.exact c,c,_,false,rfl,J,by simp [cP,hc],by omega,?_,by show l.length≤c; omega⟩
  rw [eP,ob (cP l)]
 ·refine .inr ⟨id,0,.rest 1 0,_,_,false,rfl,J,cP l,by omega,?_,rfl⟩
  rw [eP]
  exact fq (by rw [cP]; exact aD _)
theorem View.j5 {k:Nat}{S:List Nat}{h h':H}{v:V}{l:List Nat}(hv:View h v l)(hw:lB h)(I:dM k S h h')(J:∀i∈rowIds v,i∉S): View h' v l:=by
 obtain ⟨hl,hv⟩:=hv
 refine ⟨hl,?_⟩
 rcases hv with hv | ⟨id,off,cap,n,cs,st,rfl,hg,h1,h2,h3,h4⟩
 ·exact .inl hv
 ·exact .inr ⟨id,off,cap,n,cs,st,rfl,I.row hw hg (J id (by simp [rowIds])),h1,h2,h3,h4⟩
theorem jv.j5 {k:Nat}{S:List Nat}{h h':H}{v:V}{l:List Nat}(hv:jv h v l)(hw:lB h)(J:dM k S h h')(hn:∀i∈rowIds v,i∉S): jv h' v l:=by
 obtain ⟨hl,hv⟩:=hv
 refine ⟨hl,?_⟩
 rcases hv with hv | ⟨id,cs,c,rfl,I,hc⟩ | ⟨id,rfl,I,h1⟩
 ·exact .inl hv
 ·exact .inr (.inl ⟨id,cs,c,rfl,J.row hw I (hn id (by simp [rowIds])),hc⟩)
 ·exact .inr (.inr ⟨id,rfl,J.row hw I (hn id (by simp [rowIds])),h1⟩)
theorem View.len {h:H}{v:V}{l:List Nat}(hv:View h v l): lenV Tryz.prog h 28 v=some (.int .i64 l.length):=by
 obtain ⟨_,hv⟩:=hv
 rcases hv with ⟨rfl | ⟨I,rfl⟩,rfl⟩ | ⟨id,off,cap,n,cs,st,rfl,_⟩ <;> simp [lenV,aV]
theorem View.rdN {h:H}{id off len:Nat}{cap:Cap}{l:List Nat}(hv:View h (.sl id off len cap) l): len=l.length∧rdN h id off len=some (ofBytes l):=by
 obtain ⟨_,hv⟩:=hv
 rcases hv with ⟨I,_⟩ | ⟨xm,off',J,n,cs,st,I,hg,h1,h2,h3,h4⟩
 ·rcases I with I | ⟨_,I⟩ <;> cases I
 ·injection I with e1 e2 e3 e4
  subst e1; subst e2; subst e3
  refine ⟨rfl,?_⟩
  unfold Am.rdN
  simp only [hg]
  rw [aF.2 h2,ag]
  cases hc:(Nat.beq off 0&&Nat.beq l.length n) with
  | true =>
   simp only [aJ,beq_iff] at hc
   obtain ⟨rfl,hn⟩:=hc
   rw [ag,←h3,eP,fq (by omega)]
  | false=>rw [ay,h3]
theorem CM : ∃i,Tryz.prog.info? 5=some i∧i.size=1∧i.bytes=1:=by
 refine ⟨_,(show Tryz.prog.info? 5=some ((Tryz.prog.info? 5).getD default) by kernel_rfl),by kernel_rfl,by kernel_rfl⟩
theorem sQ : zeroT Tryz.prog 5=some (.int .u8 0):=by kernel_rfl
theorem JC {h:H}{x:V}{m:List Nat}(J:View h x m): srcV h 1 x=some (ofBytes m,m.length):=by
 obtain ⟨hl,I⟩:=J
 rcases I with ⟨rfl | ⟨ea,rfl⟩,rfl⟩ | ⟨id,off,cap,n,cs,st,rfl,hg,h1,h2,h3,h4⟩
 ·rfl
 ·rfl
 ·simp only [srcV,cx]
  rw [(View.rdN (l:=m) ⟨hl,.inr ⟨id,off,cap,n,cs,st,rfl,hg,h1,h2,h3,h4⟩⟩).2]
  rfl
theorem xA {h:H}{s x:V}{l m:List Nat}(hw:lB h)(hs:jv h s l)(hx:View h x m)(fC:l.length+m.length≤140737488355328):
  ∃v' h',appendV Tryz.prog h #[28,28] s x=some (v',h')∧jv h' v' (l++m)∧dM 1 (rowIds s) h h'∧(∀i∈rowIds v',i∈rowIds s∨h.next≤i):=by
 obtain ⟨i,hi,i1,i2⟩:=CM
 have J:∀b∈l++m,b<256:=fun b hb=>by
  rcases List.mem_append.1 hb with hb | hb
  ·exact hs.1 b hb
  ·exact hx.1 b hb
 have TV:kf (l.length+m.length) 1=true:=vM.2 ⟨fC,by omega⟩
 unfold appendV
 simp only [aV,hi,sQ,i1,i2,V.cells,aH,bM,JC hx]
 rw [show (Nat.ble 1 1&&Nat.ble 1 4096&&Nat.beq (0+1) 1)=true from rfl,ag]
 cases hm:Nat.beq m.length 0 with
 | true =>
  have A4:m=[]:=l_ (beq_iff.1 hm)
  subst A4
  rw [ag,gz]
  have I:=hs
  obtain ⟨_,I⟩:=I
  rcases I with ⟨rfl,rfl⟩ | ⟨id,cs,c,rfl,hg,hc⟩ | ⟨id,rfl,hg,h1⟩
  ·exact ⟨_,_,rfl,hs,(dM.refl hw _).mono (gV _) (fun _ h=>h),fun i hi=>.inl hi⟩
  ·exact ⟨_,_,rfl,hs,(dM.refl hw _).mono (gV _) (fun _ h=>h),fun i hi=>.inl hi⟩
  ·exact ⟨_,_,rfl,hs,(dM.refl hw _).mono (gV _) (fun _ h=>h),fun i hi=>.inl hi⟩
 | false =>
  have A4:1≤m.length:=by
   rcases uK m.length with h0 | h0
   ·rw [iA h0] at hm; cases hm
   ·exact h0
  rw [ay]
  have sG:∀(σ:H) (old:List Nat),lB σ→1≤(old++m).length→(∀b∈old++m,b<256)→jv (nc σ 1 (ofBytes old) (ofBytes m) (old.length+m.length)).2 (nc σ 1 (ofBytes old) (ofBytes m) (old.length+m.length)).1 (old++m):=by
   intro σ old _ h1 h2
   refine ⟨h2,.inr (.inr ⟨σ.next,?_,?_,h1⟩)⟩
   ·simp only [nc,bU]
   ·simp only [nc]
    rw [fA,aq rfl,cx,bU,ux]
  have I:=hs
  obtain ⟨_,I⟩:=I
  rcases I with ⟨rfl,rfl⟩ | ⟨id,cs,c,rfl,hg,hc⟩ | ⟨id,rfl,hg,h1⟩
  ·simp only
   have Yh:kf m.length 1=true:=by simpa using TV
   rw [Yh,ag]
   have:=sG h [] hw (by simpa using A4) (by simpa using hx.1)
   simp only [bM,dY,dn] at this
   exact ⟨_,_,rfl,by rw [dn]; exact this,(dM.zy hw _).mono (aD _) (fun i hi=>by simp at hi),fun i hi=>.inr (by simp [rowIds] at hi; omega)⟩
  ·simp only [cx,dY]
   have hv:=jv.view hs
   cases hq:Nat.ble (l.length+m.length) c with
   | true =>
    have nC:=aF.1 hq
    rw [ag]
    unfold wrN
    simp only [hg,cP]
    rw [hq,ag]
    simp only
    have pR:(cond (Nat.beq l.length 0&&Nat.beq m.length c) (ofBytes m) ((ofBytes l++cs).take l.length++(ofBytes m++(ofBytes l++cs).drop (l.length+m.length))))=ofBytes (l++m)++cs.drop m.length:=by
     have e1:(ofBytes l++cs).take l.length=ofBytes l:=ob (cP l)
     have e2:(ofBytes l++cs).drop (l.length+m.length)=cs.drop m.length:=by
      rw [yP,cP,show l.length+m.length-l.length=m.length from by omega,gR (by rw [cP]; omega),dn]
     cases hz:(Nat.beq l.length 0&&Nat.beq m.length c) with
     | true =>
      simp only [aJ,beq_iff] at hz
      have Du:l=[]:=l_ hz.1
      subst Du
      have lI:cs.drop m.length=[]:=gR (by simp at hc; omega)
      simp [lI]
     | false=>rw [ay,e1,e2,ux,gS]
    rw [pR]
    refine ⟨_,_,rfl,⟨J,.inr (.inl ⟨id,cs.drop m.length,c,by simp,?_,by simp; omega⟩)⟩,(dM.Qc hw (hw id _ hg) _).mono (gV _) (fun i hi=>by simpa [rowIds] using hi),fun i hi=>.inl (by simpa [rowIds] using hi)⟩
    rw [bV,aq rfl]
   | false =>
    rw [ay,TV,ag,hv.rdN.2]
    simp only
    exact ⟨_,_,rfl,sG h l hw (by simp; omega) J,(dM.zy hw _).mono (aD _) (fun i hi=>by simp at hi),fun i hi=>.inr (by simp [rowIds] at hi; omega)⟩
  ·simp only [cN,ag,cx,dY]
   have hv:=jv.view hs
   have ET:jP h id 0 1=l.length:=by simp [jP,hg]
   have hf:Nat.ble (l.length+m.length) l.length=false:=by
    cases hq:Nat.ble (l.length+m.length) l.length with
    | true=>have:=aF.1 hq; omega
    | false=>rfl
   rw [ET,hf,ay,TV,show Nat.ble 2 (l.length+m.length)=true from aF.2 (by omega),gA,ag,hv.rdN.2,hg]
   simp only
   have sR:lB (h.put id none):=hw.put (hw id _ hg) _
   refine ⟨_,_,rfl,sG (h.put id none) l sR (by simp; omega) J,?_,fun i hi=>.inr (by simp [rowIds,H.put] at hi; omega)⟩
   refine ((dM.Qc hw (hw id _ hg) none).trans (S':=[]) (dM.zy sR _) (fun i hi=>by simp at hi)).mono (aD _) (fun i hi=>by simpa [rowIds] using hi)
section
variable {P:Program} {E:List (Nat×V)} {h h₁:H} {x y a b:Operand} {v u r:V}
theorem bF (I:lookO E x=some v): opE P E h (.move x)=some (v,h):=by simp only [opE,ju,I]
theorem gj (I:lookO E x=some v): opE P E h (.assign x)=some (v,h):=by simp only [opE,ju,I]
theorem ir (I:lookO E x=some (.bool true))(J:lookO E a=some v): opE P E h (.pick x a b)=some (v,h):=by simp only [opE,ju,I,ag,J]
theorem fU (I:lookO E x=some (.bool false))(J:lookO E b=some v): opE P E h (.pick x a b)=some (v,h):=by simp only [opE,ju,I,ay,J]
theorem ni {i o:Nat}(I:lookO E x=some (.ptr i o)): opE P E h (.nilCheck x)=some (.ptr i o,h):=by simp only [opE,ju,I]
theorem jS {t i:Nat}(I:lookO E x=some v)(J:fieldAddrV P t v i=some r): opE P E h (.fieldAddr t x i)=some (r,h):=by simp only [opE,ju,I,J,aQ]
theorem aR {t:TypeId}(I:lookO E x=some v)(J:loadV P h t v=some r): opE P E h (.load t x)=some (r,h):=by simp only [opE,ju,I,J,aQ]
theorem vk {t:TypeId}(I:lookO E x=some v)(J:lookO E y=some u)(hf:fK P h t v u=some h₁): opE P E h (.store t x y)=some (bK,h₁):=by simp only [opE,tR,I,J,hf,nf]
theorem af {op:BinOp}{t t':TypeId}(I:lookO E x=some v)(J:lookO E y=some u)(hf:binV P h op t x y v u=some r): opE P E h (.binOp op t x y t')=some (r,h):=by simp only [opE,tR,I,J,hf,aQ]
theorem cX {op:UnOp}{t:TypeId}(I:lookO E x=some v)(J:unV op v=some r): opE P E h (.unOp op t x)=some (r,h):=by simp only [opE,ju,I,J,aQ]
theorem b9 {s d:TypeId}(I:lookO E x=some v)(J:convV P h s d v=some (r,h₁)): opE P E h (.convert s d x)=some (r,h₁):=by simp only [opE,ju,I,J]
theorem cn {t:TypeId}(I:lookO E x=some v)(J:lookO E y=some u)(hf:indexAddrV P t v u=some r): opE P E h (.indexAddr t x y)=some (r,h):=by simp only [opE,tR,I,J,hf,aQ]
theorem Ff {t:TypeId}(I:lookO E x=some v)(J:lookO E y=some u)(hf:indexV P t v u=some r): opE P E h (.index t x y)=some (r,h):=by simp only [opE,tR,I,J,hf,aQ]
theorem oo {i:Nat}{l:List V}(I:lookO E x=some (.aY l))(J:nth l i=some r): opE P E h (.extract x i)=some (r,h):=by simp only [opE,ju,I,J,aQ]
theorem dA {t:TypeId}{ps:Array (Nat×Operand)}{l:List (Nat×V)}(I:lookParts E ps.toList=some l)(J:buildV P t l=some r): opE P E h (.build t ps)=some (r,h):=by simp only [opE,I,J,aQ]
theorem fc {t:TypeId}(I:lookO E x=some v)(hs:v.cells.all storable=true): opE P E h (.box t x)=some (.ptr h.next 0,newRow h v.cells):=by simp only [opE,ju,I,hs,ag]
theorem cy {t:TypeId}(I:zeroT P t=some v): opE P E h (.alloc t)=some (.ptr h.next 0,newRow h v.cells):=by simp only [opE,I]
theorem nj {t:TypeId}(I:lookO E x=some v)(J:makeIfaceV P t v=some r): opE P E h (.makeInterface t x)=some (r,h):=by simp only [opE,ju,I,J,aQ]
theorem Et {f:Fn}{p q:Array Operand}{l m:List V}(I:lookArgs E p.toList=some l)(J:lookArgs E q.toList=some m): opE P E h (.makeFunc f p q)=some (.fn f l m,h):=by simp only [opE,I,J]
theorem aT {c:Go.Call}{t:TypeId}(I:c.callee=.builtin .len)(J:lookArgs E c.args.toList=some [v])(ht:c.argTypes.toList=[t])(hf:lenV P h t v=some r): opE P E h (.call c)=some (r,h):=by
 simp only [opE,I,J,builtinV,ht,hf,iI]
theorem mH {c:Go.Call}(I:c.callee=.builtin .append)(J:lookArgs E c.args.toList=some [v,u])(hf:appendV P h c.argTypes v u=some (r,h₁)): opE P E h (.call c)=some (r,h₁):=by
 simp only [opE,I,J,builtinV,hf]
theorem ry {t:TypeId}(I:lookO E x=some v)(J:lookO E y=some u)(hf:makeSliceV P h t v u=some (r,h₁)): opE P E h (.makeSlice t x y)=some (r,h₁):=by simp only [opE,tR,I,J,hf]
theorem mD {t n:Nat}{ps:Array (Nat×Operand)}{l:List (Nat×V)}(I:lookParts E ps.toList=some l)(J:buildSliceV P h t n l=some (r,h₁)): opE P E h (.buildSlice t n ps)=some (r,h₁):=by simp only [opE,I,J]
theorem c_ {t:TypeId}{lo hi mx:Option Operand}{p q m:Option V}{p' q' m':Option Nat}(I:lookO E x=some v)(J:lookOpt E lo=some p)(h2:lookOpt E hi=some q)(h3:lookOpt E mx=some m)
 (g1:iN p=some p')(g2:iN q=some q')(g3:iN m=some m')(hf:sliceV P h t v p' q' m'=some r): opE P E h (.slice t x lo hi mx)=some (r,h):=by simp only [opE,ju,I,J,h2,h3,g1,g2,g3,hf,aQ]
theorem Io {t:TypeId}{id off n:Nat}{cs:List V}{st:Bool}(I:b8 P t=some false)(J:T.get h.tr id=some (.cells n cs st))(hn:nth cs off=some v): loadV P h t (.ptr id off)=some v:=by
 simp only [loadV,I,wG,J,hn]
theorem bZ {t:TypeId}{id n:Nat}{cs:List V}{st:Bool}(I:b8 P t=some true)(hs:bq P t=some n)(J:T.get h.tr id=some (.cells n cs st)): loadV P h t (.ptr id 0)=some (.agg cs):=by
 simp only [loadV,I,hs,rdN,J,dY]
 rw [aF.2 (aD n),ag,cN,cN]
 rfl
end
section
variable {C:cB} {ax:Nat} {E:List (Nat×V)} {h:H} {R:List (Nat×V)→H→Prop} {L rest:List Oper} {o:Oper} {d:Nat} {cs:List V}
end
section
variable {C:cB} {ax:Nat} {E:List (Nat×V)} {h:H} {R:List (Nat×V)→H→Prop} {L rest:List Oper} {o:Oper} {d:Nat}
theorem DF {h:H}(hw:lB h){b:Nat}(I:b<256):
  ∃v h₁,buildSliceV Tryz.prog h 28 1 [(0,.int .u8 b)]=some (v,h₁)∧jv h₁ v [b]∧dM 1 [] h h₁∧∀i∈rowIds v,h.next≤i:=by
 refine ⟨.sl h.next 0 1 (.exact 1),newRow h [.int .u8 b],?_,⟨by simpa using I,.inr (.inl ⟨h.next,[],1,rfl,?_,rfl⟩)⟩,dM.zy hw _,fun i hi=>by simp [rowIds] at hi; omega⟩
 ·simp only [buildSliceV,aV,eR,sQ,V.cells]
  rfl
 ·rw [newRow,fA,aq rfl]; rfl
theorem az.JD {t:TypeId}{ps:Array (Nat×Operand)}{b:Nat}(J:C.P=Tryz.prog)(hw:lB h)(hg:wantE L E o.guard=some true)(hd:o.dst=some d)(hn:Nat.blt d ax=true)(I:o.op=.buildSlice t 1 ps)(ht:t=28)
 (hx:lookParts E ps.toList=some [(0,.int .u8 (b:Int))])(hb:b<256)
 (hr:∀v h₁,jv h₁ v [b]→dM 1 [] h h₁→(∀i∈rowIds v,h.next≤i)→az C ax L rest ((d,v)::E) h₁ R): az C ax L (o::rest) E h R:=by
 obtain ⟨v,h₁,e1,e2,e3,e4⟩:=DF hw hb
 refine az.op hg hd hn (v:=v) (h₁:=h₁) ?_ (hr v h₁ e2 e3 e4)
 rw [I,ht,J]
 exact mD hx e1
theorem az.app {c:Go.Call}{s x:V}{l m:List Nat}(hP:C.P=Tryz.prog)(hw:lB h)(hg:wantE L E o.guard=some true)(hd:o.dst=some d)(hn:Nat.blt d ax=true)(I:o.op=.call c)(hc:c.callee=.builtin .append)
 (J:c.argTypes = #[28,28])(ha:lookArgs E c.args.toList=some [s,x])(hs:jv h s l)(hx:View h x m)(fC:l.length+m.length≤140737488355328)
 (hr:∀v h₁,jv h₁ v (l++m)→dM 1 (rowIds s) h h₁→(∀i∈rowIds v,i∈rowIds s∨h.next≤i)→az C ax L rest ((d,v)::E) h₁ R): az C ax L (o::rest) E h R:=by
 obtain ⟨v,h₁,e1,e2,e3,e4⟩:=xA hw hs hx fC
 refine az.op hg hd hn (v:=v) (h₁:=h₁) ?_ (hr v h₁ e2 e3 e4)
 rw [I,hP]
 exact mH hc ha (by rw [J]; exact e1)
theorem Br {h:H}(hw:lB h){c:Nat}(J:c<1073741824):
  ∃v h₁,makeSliceV Tryz.prog h 28 (.int .i64 0) (.int .i64 (c:Int))=some (v,h₁)∧jv h₁ v []∧dM 1 [] h h₁∧∀i∈rowIds v,h.next≤i:=by
 obtain ⟨i,hi,i1,i2⟩:=CM
 refine ⟨.sl h.next 0 0 (.exact c),h.new (.cells c (repeatL [.int .u8 0] c) false),?_,⟨by simp,.inr (.inl ⟨h.next,repeatL [.int .u8 0] c,c,rfl,?_,?_⟩)⟩,dM.zy hw _,fun i hi=>by simp [rowIds] at hi; omega⟩
 ·simp only [makeSliceV,aV,hi,sQ,i1,i2,V.cells,aH,bM,bP,cx]
  rw [show (decide ((0:Int)≤0)&&decide ((0:Int)≤(c:Int))&&decide ((c:Int)<1073741824)&&Nat.ble 1 4096&&Nat.beq (0+1) 1&&Nat.ble 1 1)=true by simp; omega,ag]
  rfl
 ·rw [fA,aq rfl]; rfl
 ·have:∀n,(repeatL [V.int .u8 0] n).length=n:=fun n=>by
   induction n with
   | zero=>rfl
   | succ n I=>simp [repeatL,I]
  simp [this]
end
section
variable {C:cB} {ax:Nat} {L rest:List Oper} {E:List (Nat×V)} {h h₁:H} {R:List (Nat×V)→H→Prop} {o:Oper} {d i:Nat} {v u r:V} {x y a b:Operand} {t t':TypeId}
theorem zm (e:(o.op,wantE L E o.guard,o.dst,Nat.blt d ax,lookO E x)=(Op.move x,some true,some d,true,some v))(hw:az C ax L rest ((d,v)::E) h R): az C ax L (o::rest) E h R:=by
  simp only [aC] at e; exact az.op e.2.1 e.2.2.1 e.2.2.2.1 (by rw [e.1]; exact bF e.2.2.2.2) hw
theorem za (e:(o.op,wantE L E o.guard,o.dst,Nat.blt d ax,lookO E x)=(Op.assign x,some true,some d,true,some v))(hw:az C ax L rest ((d,v)::E) h R): az C ax L (o::rest) E h R:=by
  simp only [aC] at e; exact az.op e.2.1 e.2.2.1 e.2.2.2.1 (by rw [e.1]; exact gj e.2.2.2.2) hw
theorem zn {j k:Nat}(e:(o.op,wantE L E o.guard,o.dst,Nat.blt d ax,lookO E x)=(Op.nilCheck x,some true,some d,true,some (V.ptr j k)))(hw:az C ax L rest ((d,.ptr j k)::E) h R): az C ax L (o::rest) E h R:=by
  simp only [aC] at e; exact az.op e.2.1 e.2.2.1 e.2.2.2.1 (by rw [e.1]; exact ni e.2.2.2.2) hw
theorem zf (e:(o.op,wantE L E o.guard,o.dst,Nat.blt d ax,lookO E x)=(Op.fieldAddr t x i,some true,some d,true,some v))(I:fieldAddrV C.P t v i=some r)(hw:az C ax L rest ((d,r)::E) h R): az C ax L (o::rest) E h R:=by
  simp only [aC] at e; exact az.op e.2.1 e.2.2.1 e.2.2.2.1 (by rw [e.1]; exact jS e.2.2.2.2 I) hw
theorem zl (e:(o.op,wantE L E o.guard,o.dst,Nat.blt d ax,lookO E x)=(Op.load t x,some true,some d,true,some v))(I:loadV C.P h t v=some r)(hw:az C ax L rest ((d,r)::E) h R): az C ax L (o::rest) E h R:=by
  simp only [aC] at e; exact az.op e.2.1 e.2.2.1 e.2.2.2.1 (by rw [e.1]; exact aR e.2.2.2.2 I) hw
theorem ze {l:List V}(e:(o.op,wantE L E o.guard,o.dst,Nat.blt d ax,lookO E x,nth l i)=(Op.extract x i,some true,some d,true,some (V.aY l),some r))(hw:az C ax L rest ((d,r)::E) h R): az C ax L (o::rest) E h R:=by
  simp only [aC] at e; exact az.op e.2.1 e.2.2.1 e.2.2.2.1 (by rw [e.1]; exact oo e.2.2.2.2.1 e.2.2.2.2.2) hw
theorem zp (e:(o.op,wantE L E o.guard,o.dst,Nat.blt d ax,lookO E x,lookO E b)=(Op.pick x a b,some true,some d,true,some (V.bool false),some v))(hw:az C ax L rest ((d,v)::E) h R): az C ax L (o::rest) E h R:=by
  simp only [aC] at e; exact az.op e.2.1 e.2.2.1 e.2.2.2.1 (by rw [e.1]; exact fU e.2.2.2.2.1 e.2.2.2.2.2) hw
theorem zq (e:(o.op,wantE L E o.guard,o.dst,Nat.blt d ax,lookO E x,lookO E a)=(Op.pick x a b,some true,some d,true,some (V.bool true),some v))(hw:az C ax L rest ((d,v)::E) h R): az C ax L (o::rest) E h R:=by
  simp only [aC] at e; exact az.op e.2.1 e.2.2.1 e.2.2.2.1 (by rw [e.1]; exact ir e.2.2.2.2.1 e.2.2.2.2.2) hw
theorem zb {op:BinOp}(e:(o.op,wantE L E o.guard,o.dst,Nat.blt d ax,lookO E x,lookO E y)=(Op.binOp op t x y t',some true,some d,true,some v,some u))(I:binV C.P h op t x y v u=some r)(hw:az C ax L rest ((d,r)::E) h R): az C ax L (o::rest) E h R:=by
  simp only [aC] at e; exact az.op e.2.1 e.2.2.1 e.2.2.2.1 (by rw [e.1]; exact af e.2.2.2.2.1 e.2.2.2.2.2 I) hw
theorem zx (e:(wantE L E o.guard,o.dst,Nat.blt d ax)=(some false,some d,true))(hw:az C ax L rest ((d,bK)::E) h R): az C ax L (o::rest) E h R:=by
  simp only [aC] at e; exact az.no e.1 e.2.1 e.2.2 hw
theorem zo (e:(wantE L E o.guard,o.dst,Nat.blt d ax)=(some true,some d,true))(ho:opE C.P E h o.op=some (v,h₁))(hw:az C ax L rest ((d,v)::E) h₁ R): az C ax L (o::rest) E h R:=by
  simp only [aC] at e; exact az.op e.1 e.2.1 e.2.2 ho hw
theorem zv (I:R E h): az C ax L [] E h R:=az.nil I
variable {Q:Ex→List (Nat×V)→H→Prop} {c f:Code}
theorem zw (hw:WP C ax c E h fun ex E' h'=>match ex with
    | .normal=>WP C ax f E' h' Q
    | ex=>Q ex E' h'): WP C ax (.seq c f) E h Q:=WP.seq hw
theorem zr {k:Nat}{ops:Array Oper}(I:ops.toList=L)(hw:az C ax L L E h fun E' h'=>Q .normal E' h'): WP C ax (.region k ops false) E h Q:=WP.region I hw
theorem zg {k:Nat}{ops:Array Oper}(I:ops.toList=L)(hw:az C ax L L E h fun E' h'=>WP C ax f E' h' Q): WP C ax (.seq (.region k ops false) f) E h Q:=WP.seq (WP.region I hw)
theorem zi (I:lookO E x=some (.bool true))(hw:WP C ax c E h Q): WP C ax (.cond x c f) E h Q:=WP.cond I hw
theorem zj (I:lookO E x=some (.bool false))(hw:WP C ax f E h Q): WP C ax (.cond x c f) E h Q:=WP.cond I hw
end
inductive Md where
  | c (c:Code)
  | o (L l:List Oper)
def Bt (C:cB)(ax:Nat)(Q:Ex→List (Nat×V)→H→Prop): List Code→Ex→List (Nat×V)→H→Prop
  | []=>Q
  | b::K=>fun ex E' h'=>match ex with
    | .normal=>WP C ax b E' h' (Bt C ax Q K)
    | ex=>Bt C ax Q K ex E' h'
def Qd : List (Nat×V)→Nat→Option V
  | [],_=>none
  | (d,v)::E,k=>cond (Nat.beq d k) (some v) (Qd E k)
theorem Lw : ∀(E:List (Nat×V)) (k:Nat),Qd E k=look E k
  | [],_=>rfl
  | (d,v)::E,k=>by simp only [Qd,look,Lw E k]
def Bu (E:List (Nat×V)): Operand→Option V
  | .tmp t=>Qd E t
  | .const c=>ofValue c
  | .global _=>none
  | .func f=>some (.fn (.func f) [] [])
theorem Lx (E:List (Nat×V))(x:Operand): Bu E x=lookO E x:=by cases x <;> first | rfl | exact Lw _ _
def TW (E:List (Nat×V)): Op→Option V
  | .move x=>Bu E x
  | .assign x=>Bu E x
  | .nilCheck x=>match Bu E x with
    | some (.ptr j k)=>some (.ptr j k)
    | _=>none
  | .extract x i=>match Bu E x with
    | some (.aY l)=>nth l i
    | _=>none
  | .pick x a b=>match Bu E x with
    | some (.bool true)=>Bu E a
    | some (.bool false)=>Bu E b
    | _=>none
  | _=>none
def runM (ax:Nat): Nat→Md→List (Nat×V)→List Code→Option (Md×List (Nat×V)×List Code)
  | 0,m,E,K=>some (m,E,K)
  | n+1,.o _ [],E,b::K=>runM ax n (.c b) E K
  | n+1,.o L (o::l),E,K=>match wantE L E o.guard,o.dst with
    | some false,some d=>cond (Nat.blt d ax) (runM ax n (.o L l) ((d,bK)::E) K) none
    | some true,some d=>match TW E o.op with
      | some v=>cond (Nat.blt d ax) (runM ax n (.o L l) ((d,v)::E) K) none
      | none=>none
    | _,_=>none
  | n+1,.c (.seq a b),E,K=>runM ax n (.c a) E (b::K)
  | n+1,.c (.region _ ops false),E,K=>runM ax n (.o ops.toList ops.toList) E K
  | n+1,.c (.cond x a b),E,K=>match Bu E x with
    | some (.bool true)=>runM ax n (.c a) E K
    | some (.bool false)=>runM ax n (.c b) E K
    | _=>none
  | n+1,.c .skip,E,b::K=>runM ax n (.c b) E K
  | _+1,_,_,_=>none
abbrev Gl (C:cB)(ax:Nat)(h:H)(Q:Ex→List (Nat×V)→H→Prop)(m:Md)(E:List (Nat×V))(K:List Code): Prop:=match m with
  | .c c=>WP C ax c E h (Bt C ax Q K)
  | .o L l=>az C ax L l E h fun E' h'=>Bt C ax Q K .normal E' h'
class Fg (C:cB)(ax:Nat)(R:List (Nat×V)→H→Prop)(Q:outParam (Ex→List (Nat×V)→H→Prop))where
  K:List Code
  eq:R=fun E' h'=>Bt C ax Q K .normal E' h'
class Qe (C:cB)(ax:Nat)(R:Ex→List (Nat×V)→H→Prop)(Q:outParam (Ex→List (Nat×V)→H→Prop))where
  K:List Code
  eq:R=Bt C ax Q K
instance (priority:=50) (C:cB) (ax:Nat) (R:List (Nat×V)→H→Prop):Fg C ax R (fun _=>R):=⟨[],rfl⟩
instance (priority:=60) (C:cB) (ax:Nat) (Q:Ex→List (Nat×V)→H→Prop):Fg C ax (fun E' h'=>Q .normal E' h') Q:=⟨[],rfl⟩
instance (priority:=70) (C:cB) (ax:Nat) (f:Code) (Q:Ex→List (Nat×V)→H→Prop) (K:List Code):Fg C ax (fun E' h'=>WP C ax f E' h' (Bt C ax Q K)) Q:=⟨f::K,rfl⟩
instance (priority:=65) (C:cB) (ax:Nat) (f:Code) (Q:Ex→List (Nat×V)→H→Prop):Fg C ax (fun E' h'=>WP C ax f E' h' Q) Q:=⟨[f],rfl⟩
instance (priority:=80) (C:cB) (ax:Nat) (K:List Code) (Q:Ex→List (Nat×V)→H→Prop):Fg C ax (fun E' h'=>Bt C ax Q K .normal E' h') Q:=⟨K,rfl⟩
instance (priority:=50) (C:cB) (ax:Nat) (Q:Ex→List (Nat×V)→H→Prop):Qe C ax Q Q:=⟨[],rfl⟩
instance (priority:=80) (C:cB) (ax:Nat) (K:List Code) (Q:Ex→List (Nat×V)→H→Prop):Qe C ax (Bt C ax Q K) Q:=⟨K,rfl⟩
section
variable {C:cB} {ax:Nat} {L l:List Oper} {E E':List (Nat×V)} {h:H} {R:List (Nat×V)→H→Prop} {Q:Ex→List (Nat×V)→H→Prop} {m m':Md} {K K':List Code} {f:Code}
theorem TX {o:Op}{v:V}(e:TW E o=some v): opE C.P E h o=some (v,h):=by
  unfold TW at e
  simp only [Lx] at e
  split at e
  · exact bF e
  · exact gj e
  · split at e
    · rename_i I
      cases e; exact ni I
    · cases e
  · split at e
    · rename_i I
      exact oo I e
    · cases e
  · split at e
    · rename_i I; exact ir I e
    · rename_i I; exact fU I e
    · cases e
  · cases e
theorem Ip : ∀(n:Nat) (m:Md) (E:List (Nat×V)) (K:List Code),runM ax n m E K=some (m',E',K')→Gl C ax h Q m' E' K'→Gl C ax h Q m E K:=by
  intro n
  induction n with
  | zero=>intro m E K e hw; simp only [runM,ak,aC] at e; obtain ⟨rfl,rfl,rfl⟩:=e; exact hw
  | succ n I =>
    intro m E K e hw
    unfold runM at e
    split at e
    · rename_i he; cases he
    · rename_i he; cases he
      exact az.nil (I _ _ _ e hw)
    · rename_i he; cases he
      split at e
      · rename_i d hg hd
        cases J:Nat.blt d ax with
        | false=>rw [J] at e; cases e
        | true=>rw [J] at e; exact az.no hg hd J (I _ _ _ e hw)
      · rename_i d hg hd
        split at e
        · rename_i v hv
          cases J:Nat.blt d ax with
          | false=>rw [J] at e; cases e
          | true=>rw [J] at e; exact az.op hg hd J (TX hv) (I _ _ _ e hw)
        · cases e
      · cases e
    · rename_i he; cases he
      exact WP.seq (I _ _ _ e hw)
    · rename_i he; cases he
      exact WP.region rfl (I _ _ _ e hw)
    · rename_i he; cases he
      rw [Lx] at e
      split at e
      · rename_i hx; exact WP.cond hx (I _ _ _ e hw)
      · rename_i hx; exact WP.cond hx (I _ _ _ e hw)
      · cases e
    · rename_i he; cases he
      exact WP.skip (I _ _ _ e hw)
    · cases e
theorem zk (n:Nat)[a:Fg C ax R Q](e:runM ax n (.o L l) E (Fg.K C ax R)=some (m',E',K'))(hw:Gl C ax h Q m' E' K'): az C ax L l E h R:=by
  rw [a.eq]; exact Ip n (.o L l) E _ e hw
theorem zK {I:Ex→List (Nat×V)→H→Prop}(n:Nat)[a:Qe C ax I Q](e:runM ax n (.c f) E (Qe.K C ax I)=some (m',E',K'))(hw:Gl C ax h Q m' E' K'): WP C ax f E h I:=by
  rw [a.eq]; exact Ip n (.c f) E _ e hw
end
section
variable {C:cB} {ax:Nat} {L l rest:List Oper} {o:Oper} {E:List (Nat×V)} {h h₁:H} {d:Nat}
def OpR (C:cB)(E:List (Nat×V))(h:H)(o:Oper)(R:V→H→Prop): Prop:=∃v h₁,R v h₁∧∀env,ja env E→∃N,evOp C (ev C N) env h o=some (v,h₁)
theorem OpR.call {cl:Go.Call}{x:Operand}{k:FuncId}{first cap args:List V}{R:V→H→Prop}(J:o.op=.call cl)(hc:cl.callee=.value x)(hx:lookO E x=some (.fn (.func k) first cap))
 (ha:lookArgs E cl.args.toList=some args)(I:Am.Call C k (first++(args++cap)) h R): OpR C E h o R:=by
 obtain ⟨v,h₁,xu,hr⟩:=I
 exact ⟨v,h₁,hr,fun env hE=>DC hE J hc hx ha xu⟩
theorem OpR.of {v:V}{R:V→H→Prop}(ho:opE C.P E h o.op=some (v,h₁))(I:R v h₁): OpR C E h o R:=⟨v,h₁,I,fun _ J=>⟨0,Bl J ho⟩⟩
theorem az.any {R:List (Nat×V)→H→Prop}{vT:V→H→Prop}(hg:wantE L E o.guard=some true)(hd:o.dst=some d)(hn:Nat.blt d ax=true)(ho:OpR C E h o vT)
 (hw:∀v h₁,vT v h₁→az C ax L rest ((d,v)::E) h₁ R): az C ax L (o::rest) E h R:=by
 intro env J
 obtain ⟨v,h₁,hr,kx⟩:=ho
 obtain ⟨N,hN⟩:=kx env J
 obtain ⟨M,I,h',E',h1,h2,h3⟩:=hw v h₁ hr (env.set d (some v)) (J.set d v)
 refine ⟨Nat.max N M,I,h',E',?_,h2,h3⟩
 simp only [evOps,jR J hg,ag,lJ (fT (oa N M)) hN,St.put,hd,hn]
 exact oQ (fT (n_ N M)) _ _ _ h1
def JE : List (Env×V)→List (List (Nat×V)×V)→Prop
 | [],[]=>True
 | x::l,y::m=>ja x.1 y.1∧x.2=y.2∧JE l m
 | _,_=>False
def aA (C:cB)(ax:Nat)(L l:List Oper)(E:List (Nat×V))(h:H)(hs:List H)(Q:List (Nat×V)→H→List (List (Nat×V)×V)→List H→Prop): Prop :=
 ∀env,ja env E→∃N I h' E' tr ts J,trace C (ev C N) L l ⟨env,ax,h⟩ hs=some (tr,J,⟨I,ax,h'⟩)∧ja I E'∧JE tr ts∧Q E' h' ts J
variable {hs:List H} {Q:List (Nat×V)→H→List (List (Nat×V)×V)→List H→Prop}
theorem aA.nil (I:Q E h [] hs): aA C ax L [] E h hs Q:=fun env J=>⟨0,env,h,E,[],[],hs,rfl,J,aa,I⟩
theorem aA.any {vT:V→H→Prop}{e:Bool}(hg:wantE L E o.guard=some true)(hd:o.dst=some d)(hn:Nat.blt d ax=true)(he:isEff C o.op=e)(ho:OpR C E h o vT)
 (hw:∀v h₁,vT v h₁→aA C ax L rest ((d,v)::E) h₁ (cond e (hs++[h₁]) hs) fun E' h' ts I=>Q E' h' ((E,v)::ts) I): aA C ax L (o::rest) E h hs Q:=by
 intro env hE
 obtain ⟨v,h₁,hr,kx⟩:=ho
 obtain ⟨N,hN⟩:=kx env hE
 obtain ⟨M,J,h',E',tr,ts,I,h1,h2,h3,h4⟩:=hw v h₁ hr (env.set d (some v)) (hE.set d v)
 refine ⟨Nat.max N M,J,h',E',(env,v)::tr,(E,v)::ts,I,?_,h2,⟨hE,rfl,h3⟩,h4⟩
 simp only [trace,jR hE hg,ag,lJ (fT (oa N M)) hN,St.put,hd,hn,he]
 rw [vR (fT (n_ N M)) _ _ _ _ h1]
theorem aA.j6 {vT:V→H→Prop}{e:Bool}(hg:wantE L E o.guard=some true)(hd:o.dst=none)(he:isEff C o.op=e)(ho:OpR C E h o vT)
 (hw:∀v h₁,vT v h₁→aA C ax L rest E h₁ (cond e (hs++[h₁]) hs) fun E' h' ts I=>Q E' h' ((E,v)::ts) I): aA C ax L (o::rest) E h hs Q:=by
 intro env hE
 obtain ⟨v,h₁,hr,kx⟩:=ho
 obtain ⟨N,hN⟩:=kx env hE
 obtain ⟨M,J,h',E',tr,ts,I,h1,h2,h3,h4⟩:=hw v h₁ hr env hE
 refine ⟨Nat.max N M,J,h',E',(env,v)::tr,(E,v)::ts,I,?_,h2,⟨hE,rfl,h3⟩,h4⟩
 simp only [trace,jR hE hg,ag,lJ (fT (oa N M)) hN,St.put,hd,he]
 rw [vR (fT (n_ N M)) _ _ _ _ h1]
theorem aA.op {v:V}(J:wantE L E o.guard=some true)(hd:o.dst=some d)(hn:Nat.blt d ax=true)(he:isEff C o.op=false)(ho:opE C.P E h o.op=some (v,h))
 (hw:aA C ax L rest ((d,v)::E) h hs fun E' h' ts I=>Q E' h' ((E,v)::ts) I): aA C ax L (o::rest) E h hs Q :=
 aA.any J hd hn he (OpR.of (R:=fun v' h'=>v'=v∧h'=h) ho ⟨rfl,rfl⟩) (fun v' h' hr=>by obtain ⟨rfl,rfl⟩:=hr; exact hw)
theorem aA.no {e:Bool}(hg:wantE L E o.guard=some false)(hd:o.dst=some d)(hn:Nat.blt d ax=true)(he:isEff C o.op=e)
 (hw:aA C ax L rest ((d,bK)::E) h (cond e (hs++[h]) hs) fun E' h' ts I=>Q E' h' ((E,bK)::ts) I): aA C ax L (o::rest) E h hs Q:=by
 intro env hE
 obtain ⟨M,J,h',E',tr,ts,I,h1,h2,h3,h4⟩:=hw (env.set d (some bK)) (hE.set d bK)
 refine ⟨M,J,h',E',(env,bK)::tr,(E,bK)::ts,I,?_,h2,⟨hE,rfl,h3⟩,h4⟩
 simp only [trace,jR hE hg,ay,St.put,hd,hn,ag,he]
 rw [h1]
def Fh (C:cB)(L:List Oper)(o:Oper)(x:List (Nat×V)×V)(h:H): Prop :=
 wantE L x.1 o.guard=some false∨(wantE L x.1 o.guard=some true∧(∃h',opE C.P x.1 h o.op=some (x.2,h'))∧x.2.beq x.2=true)
def Eu (C:cB)(L:List Oper)(an es:List Nat)(hs:List H): List Oper→List (List (Nat×V)×V)→Nat→Prop
 | o::l,x::tr,i=>(isEff C o.op=true∨(ki ((nth an i).getD 0) es&&Nat.beq (gP ((nth an i).getD 0) es) (jy an i es))=true ∨
   (ki ((nth an i).getD 0) es=true∧∀h∈(hs.drop (gP ((nth an i).getD 0) es)).take (jy an i es+1-gP ((nth an i).getD 0) es),Fh C L o x h))∧Eu C L an es hs l tr (i+1)
 | [],[],_=>True
 | _,_,_=>False
theorem Lz {self:Self}{x:Env×V}{y:List (Nat×V)×V}(J:ja x.1 y.1)(hv:x.2=y.2): ∀(hs:List H),(∀h∈hs,Fh C L o y h)→sameIn C self L o x hs=true:=by
 intro hs
 induction hs with
 | nil=>intro _; rfl
 | cons h hs ih =>
  intro I
  simp only [sameIn]
  rcases I h ct with hg | ⟨hg,⟨h',ho⟩,hb⟩
  ·rw [jR J hg,ay]
  ·rw [jR J hg,ag,Bl J ho]
   simp only
   rw [hv,hb,ag]
   exact ih (fun h hh=>I h (b6 _ hh))
theorem LA {self:Self}{an es:List Nat}: ∀(l:List Oper) (tr:List (Env×V)) (J:List (List (Nat×V)×V)) (i:Nat),JE tr J→Eu C L an es hs l J i→stayOk C self L an es hs l tr i=true:=by
 intro l
 induction l with
 | nil=>intro tr J i hn gq; cases tr <;> cases J <;> first | rfl | (exact gq.elim) | (exact hn.elim)
 | cons o l ih =>
  intro tr J i hn gq
  cases tr with
  | nil=>cases J with
   | nil=>exact gq.elim
   | cons y J=>exact hn.elim
  | cons x tr =>
   cases J with
   | nil=>exact hn.elim
   | cons y J =>
    obtain ⟨n1,n2,n3⟩:=hn
    obtain ⟨s1,s2⟩:=gq
    simp only [stayOk]
    have I:=ih tr J (i+1) n3 s2
    cases he:isEff C o.op with
    | true=>rw [ag]; exact I
    | false =>
     rw [ay]
     rcases s1 with s1 | s1 | ⟨s1,s3⟩
     ·rw [he] at s1; cases s1
     ·rw [s1,ag]; exact I
     ·cases hq:(ki ((nth an i).getD 0) es&&Nat.beq (gP ((nth an i).getD 0) es) (jy an i es)) with
      | true=>rw [ag]; exact I
      | false=>rw [ay,s1,Lz n1 n2 _ s3,gA,ag]; exact I
theorem WP.draw {id:Nat}{ops:Array Oper}{Q:Ex→List (Nat×V)→H→Prop}(hl:ops.toList=L)(J:mL C false L=true)
 (hw:aA C ax L L E h [h] fun E' h' ts hs=>Eu C L (ancs L []) (cU C L 0) hs L ts 0∧Q .normal E' h'): WP C ax (.region id ops true) E h Q:=by
 intro env hE
 obtain ⟨N,I,h',E',tr,ts,DB,h1,h2,h3,h4,h5⟩:=hw env hE
 refine ⟨N+1,.normal,I,h',E',?_,h2,h5⟩
 subst hl
 rw [iO]
 simp only [evStep,ag,lp,J,h1,LA _ _ _ _ h3 h4]
end
def planOk (C:cB)(an es:List Nat): List Oper→List (Option (Nat×Nat))→Nat→Bool
 | [],[],_=>true
 | o::l,p::ps,i=>(match p with
   | none=>isEff C o.op||(ki ((nth an i).getD 0) es&&Nat.beq (gP ((nth an i).getD 0) es) (jy an i es))
   | some (lo,n)=>ki ((nth an i).getD 0) es&&Nat.beq lo (gP ((nth an i).getD 0) es)&&Nat.beq n (jy an i es+1-gP ((nth an i).getD 0) es))&&planOk C an es l ps (i+1)
 | _,_,_=>false
def Bv (C:cB)(L:List Oper)(hs:List H): List Oper→List (List (Nat×V)×V)→List (Option (Nat×Nat))→Prop
 | o::l,x::tr,p::ps=>(match p with
   | none=>True
   | some (lo,n)=>∀h∈(hs.drop lo).take n,Fh C L o x h)∧Bv C L hs l tr ps
 | [],[],_=>True
 | _,_,_=>False
theorem Bv.stay {C:cB}{L:List Oper}{hs:List H}{an es:List Nat}: ∀(l:List Oper) (I:List (List (Nat×V)×V)) (ps:List (Option (Nat×Nat))) (i:Nat),planOk C an es l ps i=true→Bv C L hs l I ps→Eu C L an es hs l I i:=by
 intro l
 induction l with
 | nil=>intro I ps i h1 h2; cases I with
  | nil=>trivial
  | cons x I=>exact h2.elim
 | cons o l ih =>
  intro I ps i h1 h2
  cases I with
  | nil=>cases ps <;> exact h2.elim
  | cons x I =>
   cases ps with
   | nil=>exact h2.elim
   | cons p ps =>
    simp only [planOk,aJ] at h1
    obtain ⟨J,a2⟩:=h1
    obtain ⟨b1,b2⟩:=h2
    refine ⟨?_,ih I ps (i+1) a2 b2⟩
    cases p with
    | none =>
     simp only [mh] at J
     rcases J with J | J
     ·exact .inl J
     ·exact .inr (.inl J)
    | some q =>
     obtain ⟨lo,n⟩:=q
     simp only [aJ,beq_iff] at J
     obtain ⟨⟨c1,c2⟩,c3⟩:=J
     refine .inr (.inr ⟨c1,?_⟩)
     subst c2
     subst c3
     exact b1
theorem WP.drawn {C:cB}{ax:Nat}{L:List Oper}{E:List (Nat×V)}{h:H}{id:Nat}{ops:Array Oper}{Q:Ex→List (Nat×V)→H→Prop}(ps:List (Option (Nat×Nat)))(hl:ops.toList=L)(J:mL C false L=true)
 (hp:planOk C (ancs L []) (cU C L 0) L ps 0=true)
 (hw:aA C ax L L E h [h] fun E' h' ts hs=>Bv C L hs L ts ps∧Q .normal E' h'): WP C ax (.region id ops true) E h Q:=by
 refine WP.draw hl J ?_
 intro env hE
 obtain ⟨N,I,h',E',tr,ts,DB,h1,h2,h3,h4,h5⟩:=hw env hE
 exact ⟨N,I,h',E',tr,ts,DB,h1,h2,h3,Bv.stay _ _ _ _ hp h4,h5⟩
theorem dB {a b:H}{l:List H}{p:H→Prop}(J:p a)(hb:p b): ∀x∈((a::b::l).drop 0).take 2,p x:=by
 intro x I
 simp only [eP,rI,mj,ij,mg,rW] at I
 rcases I with rfl | rfl
 ·exact J
 ·exact hb
theorem vl {a b c:H}{l:List H}{p:H→Prop}(J:p a)(hb:p b)(hc:p c): ∀x∈((a::b::c::l).drop 0).take 3,p x:=by
 intro x I
 simp only [eP,rI,mj,ij,mg,rW] at I
 rcases I with rfl | rfl | rfl
 ·exact J
 ·exact hb
 ·exact hc
theorem dg (k:IntKind): ikBeq k k=true:=by cases k <;> rfl
theorem qn (n:Int): intBeq n n=true:=by cases n <;> simp [intBeq]
theorem Ar (c:Cap): c.beq c=true:=by cases c <;> simp [Cap.beq]
theorem Bw (a b c:Nat)(d:Cap): (V.sl a b c d).beq (.sl a b c d)=true:=by simp [V.beq,Ar]
theorem gY {h:H}{v:V}{l:List Nat}(hv:View h v l): v.beq v=true:=by
 obtain ⟨_,hv⟩:=hv
 rcases hv with ⟨rfl | ⟨I,rfl⟩,_⟩ | ⟨id,off,cap,n,cs,st,rfl,_⟩
 ·simp [V.beq]
 ·simp [V.beq]
 ·exact Bw _ _ _ _
section
variable {C:cB} {ax:Nat} {L rest:List Oper} {E:List (Nat×V)} {h:H} {hs:List H} {Q:List (Nat×V)→H→List (List (Nat×V)×V)→List H→Prop} {o:Oper} {d i:Nat} {v u r:V} {x y a b:Operand} {t t':TypeId}
theorem zM (e:(o.op,wantE L E o.guard,o.dst,Nat.blt d ax,isEff C o.op,lookO E x)=(Op.move x,some true,some d,true,false,some v))(hw:aA C ax L rest ((d,v)::E) h hs fun E' h' J I=>Q E' h' ((E,v)::J) I): aA C ax L (o::rest) E h hs Q:=by
  simp only [aC] at e; exact aA.op e.2.1 e.2.2.1 e.2.2.2.1 e.2.2.2.2.1 (by rw [e.1]; exact bF e.2.2.2.2.2) hw
theorem zA (e:(o.op,wantE L E o.guard,o.dst,Nat.blt d ax,isEff C o.op,lookO E x)=(Op.assign x,some true,some d,true,false,some v))(hw:aA C ax L rest ((d,v)::E) h hs fun E' h' J I=>Q E' h' ((E,v)::J) I): aA C ax L (o::rest) E h hs Q:=by
  simp only [aC] at e; exact aA.op e.2.1 e.2.2.1 e.2.2.2.1 e.2.2.2.2.1 (by rw [e.1]; exact gj e.2.2.2.2.2) hw
theorem zN {j k:Nat}(e:(o.op,wantE L E o.guard,o.dst,Nat.blt d ax,isEff C o.op,lookO E x)=(Op.nilCheck x,some true,some d,true,false,some (V.ptr j k)))(hw:aA C ax L rest ((d,.ptr j k)::E) h hs fun E' h' J I=>Q E' h' ((E,.ptr j k)::J) I): aA C ax L (o::rest) E h hs Q:=by
  simp only [aC] at e; exact aA.op e.2.1 e.2.2.1 e.2.2.2.1 e.2.2.2.2.1 (by rw [e.1]; exact ni e.2.2.2.2.2) hw
theorem zF (e:(o.op,wantE L E o.guard,o.dst,Nat.blt d ax,isEff C o.op,lookO E x)=(Op.fieldAddr t x i,some true,some d,true,false,some v))(J:fieldAddrV C.P t v i=some r)(hw:aA C ax L rest ((d,r)::E) h hs fun E' h' ts I=>Q E' h' ((E,r)::ts) I): aA C ax L (o::rest) E h hs Q:=by
  simp only [aC] at e; exact aA.op e.2.1 e.2.2.1 e.2.2.2.1 e.2.2.2.2.1 (by rw [e.1]; exact jS e.2.2.2.2.2 J) hw
theorem zL (e:(o.op,wantE L E o.guard,o.dst,Nat.blt d ax,isEff C o.op,lookO E x)=(Op.load t x,some true,some d,true,false,some v))(J:loadV C.P h t v=some r)(hw:aA C ax L rest ((d,r)::E) h hs fun E' h' ts I=>Q E' h' ((E,r)::ts) I): aA C ax L (o::rest) E h hs Q:=by
  simp only [aC] at e; exact aA.op e.2.1 e.2.2.1 e.2.2.2.1 e.2.2.2.2.1 (by rw [e.1]; exact aR e.2.2.2.2.2 J) hw
theorem zO (e:(wantE L E o.guard,o.dst,Nat.blt d ax,isEff C o.op)=(some true,some d,true,false))(ho:opE C.P E h o.op=some (v,h))(hw:aA C ax L rest ((d,v)::E) h hs fun E' h' J I=>Q E' h' ((E,v)::J) I): aA C ax L (o::rest) E h hs Q:=by
  simp only [aC] at e; exact aA.op e.1 e.2.1 e.2.2.1 e.2.2.2 ho hw
end
end Go.Proofs.YtefepnnfphdkpaaGreat.Am
