/- AtomTorn: a part of its proof; conditions: its statement's. -/
import Derived.Test.YtconhghphklfjaaGreatT05
namespace Go.Proofs.YtconhghphklfjaaGreat.Am
open Go
section
variable {P:Program} {c:Ctx} {σ:H} {w:World}
def g_ (P:Program)(s:Sem Value)(c:Ctx)(w:World)(v:V)(J:H): Prop :=
 ∃w' I,s.run P w=.ok (conc I v) w'∧wf I v∧Rel I J w'∧dL c w I w'
def PV (P:Program)(s:Sem Unit)(c:Ctx)(w:World)(I:H): Prop :=
 ∃w' J,s.run P w=.ok () w'∧Rel J I w'∧dL c w J w'
theorem g_.same {s:Sem Value}{v:V}(h:Rel c σ w)(I:s.run P w=.ok (conc c v) w∧wf c v): g_ P s c w v σ :=
 ⟨w,c,I.1,I.2,h,dL.refl c w⟩
theorem s_ {cs:List V}(h:Rel c σ w)(I:∀v∈cs,wf c v∧storable v=true)(e:TypeId):
  Rel (c.grow w.heap.size 0 cs.length) (newRow σ cs) (w.alloc (.cells (cs.map (conc c)).toArray e))∧dL c w (c.grow w.heap.size 0 cs.length) (w.alloc (.cells (cs.map (conc c)).toArray e)):=by
 have:=h.newRow I e []
 simpa [newRow] using this
theorem GJ (c:Ctx)(b size:Nat): conc (c.grow b 0 size) (.ptr c.N 0)=.pointer (some ⟨b,0,none⟩):=by
 simp [conc,bD]
theorem M4 {t:TypeId}{z:V}(h:Rel c σ w)(I:zeroT P t=some z):
  g_ P (Instr.alloc t true (.tuple #[])) c w (.ptr σ.next 0) (newRow σ z.cells):=by
 obtain ⟨U,z2⟩:=ga I c w
 obtain ⟨g1,g2⟩:=s_ h (fun v J=>⟨kR z2 v J,my I v J⟩) t
 refine ⟨_,_,?_,?_,g1,g2⟩
 ·rw [h.next,GJ]
  simp [Instr.alloc,U,newVar,Go.newRow,fJ]
 ·simp [wf,h.next,lG]
theorem TA {t:TypeId}{v:V}(h:Rel c σ w)(J:wf c v)(hs:v.cells.all storable=true):
  g_ P (Instr.box t (conc c v)) c w (.ptr σ.next 0) (newRow σ v.cells):=by
 obtain ⟨U,g2⟩:=s_ h (fun x I=>⟨kR J x I,(List.all_eq_true.1 hs) x I⟩) t
 refine ⟨_,_,?_,?_,U,g2⟩
 ·rw [h.next,GJ]
  simp [Instr.box,newVar,Go.newRow,fJ]
 ·simp [wf,h.next,lG]
theorem oa (z:List V)(n:Nat): (repeatL z n).length=n*z.length:=by
 induction n with
 | zero=>simp [repeatL]
 | succ n I=>simp [repeatL,I,Nat.succ_mul,tO]
theorem I4 (z:List V)(n:Nat): ∀i,i<n*z.length→(repeatL z n)[i]?=z[i%z.length]?:=by
 induction n with
 | zero=>intro i hi; simp at hi
 | succ n J =>
  intro i hi
  rw [Nat.succ_mul] at hi
  simp only [repeatL]
  by_cases I:i<z.length
  ·rw [kE I,gJ I]
  ·rw [nT (by omega),J _ (by omega)]
   congr 1
   have:=Nat.mod_eq_sub_mod (show i≥z.length by omega)
   rw [this]
theorem lT {z:List V}{n:Nat}{v:V}(h:v∈repeatL z n): v∈z:=by
 induction n with
 | zero=>simp [repeatL] at h
 | succ n I =>
  simp only [repeatL,rj] at h
  rcases h with h | h
  ·exact h
  ·exact I h
theorem qo (c:Ctx)(z:List V)(n:Nat)(U:1≤z.length):
  ((Array.range (n*z.length)).map fun i=>((z.map (conc c)).toArray)[i%((z.map (conc c)).toArray).size]!)=((repeatL z n).map (conc c)).toArray:=by
 apply qZ
 intro i
 by_cases hi:i<n*z.length
 ·have I:i%z.length<z.length:=wg _ U
  have J:=I4 z n i hi
  rw [bg I] at J
  simp only [Array.getElem?_map,Array.getElem?_range,hi,bQ,iW,List.size_toArray,eu,m6,pH,J]
  congr 1
  rw [getElem!_pos _ _ (by simpa using I)]
  simp
 ·have h3:(repeatL z n).length≤i:=by rw [oa]; omega
  simp [hi,h3]
theorem Cq {t:TypeId}{n:Nat}{l:List (Nat×V)}{v:V}{J:H}(h:Rel c σ w)(I:buildSliceV P σ t n l=some (v,J))(hl:∀x∈l,wf c x.2):
  g_ P (Instr.buildSlice t n (l.map fun x=>(x.1,conc c x.2)).toArray) c w v J:=by
 unfold buildSliceV at I
 generalize ht:P.underlying t=dt at I
 split at I
 ·rename_i e
  cases U:bJ P e with
  | none=>simp [U] at I
  | some k =>
   cases hz:zeroT P e with
   | none=>simp [U,hz] at I
   | some z =>
    simp only [U,hz] at I
    cases hq:(Nat.beq z.cells.length k&&Nat.ble (n*k) 65536&&Nat.ble 1 k) with
    | false=>simp [hq] at I
    | true =>
     simp only [hq,ag] at I
     simp only [aZ,beq_iff,aQ] at hq
     obtain ⟨⟨q1,q2⟩,q3⟩:=hq
     obtain ⟨z1,z2⟩:=ga hz c w
     cases hf:fillV (fun i=>some (i*k,k)) (repeatL z.cells n) l with
     | none=>simp [hf] at I
     | some cs =>
      simp only [hf] at I
      cases hs:cs.all storable with
      | false=>simp [hs] at I
      | true =>
       simp only [hs,ag,au,aP] at I
       obtain ⟨rfl,rfl⟩:=I
       obtain ⟨f1,f2,f3⟩:=Ed (c:=c) _ l _ cs hf (fun v hv=>kR z2 v (lT hv)) hl
       obtain ⟨g1,g2⟩:=s_ h (fun v hv=>⟨f2 v hv,(List.all_eq_true.1 hs) v hv⟩) e
       refine ⟨_,_,?_,?_,g1,g2⟩
       ·have h24:¬ (n*k>2^24):=by omega
        have Br:((Array.range (n*k)).map fun i=>((z.cells.map (conc c)).toArray)[i%((z.cells.map (conc c)).toArray).size]!)=((repeatL z.cells n).map (conc c)).toArray:=by
         rw [←q1]; exact qo c z.cells n (by omega)
        by_cases h0:n*k=0
        ·have qS:(repeatL z.cells n)=[]:=by
          have:(repeatL z.cells n).length=0:=by rw [oa,q1]; exact h0
          exact List.length_eq_zero_iff.1 this
         rw [qS] at f1
         simp only [List.map_nil] at f1
         simp only [Instr.buildSlice,Sem.run_bind,run_underlying ht,Result.andThen_ok,c_ U,h0,bQ]
         have wz:(Array.map (fun (_:Nat)=>(default:Value)) (Array.range 0)) = #[]:=by simp [Array.range]
         simp [wz,f1,Go.newRow,h.next,conc,bD]
        ·simp only [Instr.buildSlice,Sem.run_bind,run_underlying ht,Result.andThen_ok,c_ U,h24,bN,h0,Sem.run_pure,z1,fJ,Br,f1]
         simp [Go.newRow,h.next,conc,bD]
       ·simp [wf,h.next,lG]
 ·simp at I
theorem yP (c:Ctx){l:List Nat}(I:∀x∈l,x<256): ((⟨(l.map UInt8.ofNat).toArray⟩:ByteArray).data.map fun b=>Value.int .u8 b.toNat)=((ofBytes l).map (conc c)).toArray:=by
 simp only [List.map_toArray,ofBytes,v8]
 congr 1
 refine vS fun x J => ?_
 simp [conc,tE,gJ (I x J)]
theorem vB {l:List Nat}{v:V}(h:v∈ofBytes l): ∃n:Nat,v=.int .u8 n:=by
 simp only [ofBytes,nY] at h
 obtain ⟨n,_,rfl⟩:=h
 exact ⟨n,rfl⟩
theorem M5 {s d:TypeId}{x v:V}{iJ:H}(h:Rel c σ w)(J:convB P σ s d x=some (v,iJ))(hx:wf c x):
  g_ P (convert s d (conc c x)) c w v iJ:=by
 unfold convB at J
 generalize hs:P.underlying s=ds at J
 generalize hd:P.underlying d=dd at J
 split at J
 ·rename_i e l
  generalize he:P.underlying e=de at J
  split at J
  ·cases hk:bJ P e with
   | none=>simp [hk] at J
   | some k =>
    simp only [hk] at J
    cases hq:Nat.beq k 1 with
    | false=>simp [hq] at J
    | true =>
     have:=beq_iff.1 hq
     subst this
     simp only [hq,ag,au,aP] at J
     obtain ⟨rfl,rfl⟩:=J
     have hl:∀y∈l,y<256:=by simpa [wf] using hx
     have eX:(⟨(l.map UInt8.ofNat).toArray⟩:ByteArray).size=l.length:=by simp [ByteArray.size]
     generalize U:(Question.appendCap l.length 0 e).cut (w.tape w.drawn (.appendCap l.length 0 e))=cap
     have ab0:l.length≤cap:=by rw [←U]; simp [Question.cut]
     obtain ⟨C,Vj⟩:∃C:Array Value,C=((ofBytes l).map (conc c)).toArray++Array.replicate (cap-l.length) (.int .u8 0):=⟨_,rfl⟩
     have hC:C.size=cap:=by simp [Vj,ofBytes]; omega
     have Lh:(convert s d (conc c (.str l))).run P w=.ok (.slice (some ⟨w.heap.size,0,none⟩) l.length cap) (w.drew.alloc (.cells C e (cap,cap+1))):=by
      simp only [conc,convert,Sem.run_bind,run_underlying hs,run_underlying hd,run_underlying he,Result.andThen_ok]
      simp only [Conv.stringToBytes,Sem.run_bind,run_choose,eX,Question.forced,eY,bN,Result.andThen_ok,U,yP c hl,←Vj]
      simp only [Go.newRow,Sem.run_bind,run_newObj,Result.andThen_ok,Sem.run_pure,markStringish,run_shape]
      have I:World.shape? { w.drew with heap:=w.drew.heap.push (.cells C e) } w.drew.heap.size=some (e,cap):=by
       simp only [World.shape?,DU,bQ,hC]
      simp only [World.drew] at I ⊢
      rw [I]
      simp only [run_freeze,Result.andThen_ok]
      congr 1
      simp only [World.freeze,World.alloc]
      simp only [Nat.one_ne_zero,bN]
      congr 1
      apply qZ
      intro i
      rw [DR]
      simp only [DU]
      by_cases hi:w.heap.size=i
      ·subst hi; simp
      ·simp [hi,jo hi]
     have hex:=h.drew
     have g:=hex.new (.cells l.length (ofBytes l) true) (.cells C e (cap,cap+1)) 0 rfl ?_
     ·obtain ⟨g1,g2⟩:=g
      have E8:objSize (.cells C e (cap,cap+1))=cap:=by simp [objSize,hC]
      rw [E8] at g1 g2
      refine ⟨_,_,?_,?_,g1,(dL.drew c w).trans g2⟩
      ·rw [Lh]
       simp [conc,h.next,Ctx.room,Ctx.grow]
      ·simp [wf,h.next,Ctx.room,Ctx.grow]; omega
     ·have E8:objSize (.cells C e (cap,cap+1))=cap:=by simp [objSize,hC]
      rw [E8]
      refine ⟨by simp [ofBytes],fun v hv => ?_,C,e,(cap,cap+1),by rw [bD,iF]; simp,by rw [bD]; simp only; omega,fun j v hv => ?_,by simp [FzOk,hC]⟩
      ·obtain ⟨n,rfl⟩:=vB hv
       exact ⟨by simp [wf],rfl⟩
      ·rw [bD]
       obtain ⟨hj,uh⟩:=List.getElem?_eq_some_iff.1 hv
       obtain ⟨n,rfl⟩:=vB (bw hv)
       rw [Vj,Array.getElem?_append_left (by simpa using hj)]
       simp [hv,conc]
  ·simp at J
 ·rename_i e' e id off len cap
  generalize he:P.underlying e=de at J
  split at J
  ·rename_i yQ n cs hg
   cases hq:Nat.beq s d with
   | false=>simp [hq] at J
   | true =>
    have hsd:=beq_iff.1 hq
    subst hsd
    simp only [hq,ag,au,aP] at J
    obtain ⟨rfl,rfl⟩:=J
    have hee:e'=e:=by rw [hs] at hd; simpa using hd
    subst hee
    obtain ⟨hn,M6,C,el,fz,hb,hle,hc,wu⟩:=h.obj id _ hg
    simp only [FzOk] at wu
    subst wu
    have g:=h.J0 (st':=true) (qR:=(C.size,C.size+1)) (C':=C) (cs':=cs) hg hb rfl hn M6 hc (by simp [FzOk])
    refine ⟨_,c,?_,hx,g.1,g.2⟩
    have bV:(c.ρ id).1<w.heap.size:=(Array.getElem?_eq_some_iff.1 hb).1
    have M7:∃a n m,conc c (.sl id off len cap)=.slice (some a) n m∧a.block=(c.ρ id).1:=by
     cases cap with
     | exact k=>exact ⟨⟨(c.ρ id).1,(c.ρ id).2+off,none⟩,len,k,by simp only [conc],rfl⟩
     | rest Bn alt=>exact ⟨⟨(c.ρ id).1,(c.ρ id).2+(if c.room id off Bn=0 then alt else off),none⟩,len,c.room id off Bn,by simp only [conc],rfl⟩
    obtain ⟨a,n',m',M7,pQ⟩:=M7
    have I:World.shape? w a.block=some (el,C.size):=by simp [World.shape?,pQ,hb]
    rw [M7]
    simp only [convert,Sem.run_bind,run_underlying hs,run_underlying he,Result.andThen_ok,beq_self_eq_true,markStringish,run_shape,I,run_freeze,Sem.run_pure]
    congr 1
    simp only [World.freeze,World.setRow,Nat.one_ne_zero,bN,pQ]
    congr 1
    apply qZ
    intro i
    rw [DR,m5]
    by_cases hi:(c.ρ id).1=i
    ·subst hi
     rw [aj rfl,aj rfl,hb]
     simp [bV]
    ·simp [hi]
  ·simp at J
 ·simp at J
theorem va {x:Int}(I:0≤x)(h1:x<9223372036854775808): IntKind.i64.wrap x=x:=by
 have J:x%(2^IntKind.i64.bits:Int)=x:=Int.emod_eq_of_lt I (by simp [IntKind.bits]; omega)
 have U:¬ (x≥(2^(IntKind.i64.bits-1):Int)):=by simp [IntKind.bits]; omega
 simp only [IntKind.wrap,J]
 simp [U]
theorem Ef {t:TypeId}{a b v:V}{U:H}(h:Rel c σ w)(I:makeSliceV P σ t a b=some (v,U)):
  g_ P (Instr.makeSlice t (conc c a) (conc c b)) c w v U:=by
 unfold makeSliceV at I
 generalize ht:P.underlying t=dt at I
 split at I
 ·rename_i e
  split at I
  ·rename_i i z k1 l k2 n hi hz
   cases hq:(decide (0≤l)&&decide (l≤n)&&decide (n<1073741824)&&Nat.ble i.bytes 4096&&Nat.beq z.cells.length i.size&&Nat.ble 1 i.size) with
   | false=>simp [hq] at I
   | true =>
    simp only [hq,ag,au,aP] at I
    obtain ⟨rfl,rfl⟩:=I
    simp only [aZ,dZ,beq_iff,aQ] at hq
    obtain ⟨⟨⟨⟨⟨q1,q2⟩,q3⟩,q4⟩,q5⟩,q6⟩:=hq
    obtain ⟨z1,z2⟩:=ga hz c w
    have hlen:(repeatL z.cells n.toNat).length=n.toNat*i.size:=by rw [oa,q5]
    have g:=s_ (cs:=repeatL z.cells n.toNat) h (fun v hv=>⟨kR z2 v (lT hv),my hz v (lT hv)⟩) e
    obtain ⟨g1,g2⟩:=g
    have hnr:newRow σ (repeatL z.cells n.toNat)=σ.new (.cells (n.toNat*i.size) (repeatL z.cells n.toNat) false):=by simp [newRow,hlen]
    rw [hnr] at g1
    refine ⟨_,_,?_,?_,g1,g2⟩
    ·have w1:=va q1 (by omega)
     have w2:=va (x:=n) (by omega) (by omega)
     have hb:¬ ((i.bytes:Int)*n>2^48):=by
      have:(i.bytes:Int)*n≤4096*1073741824:=Int.mul_le_mul (by omega) (by omega) (by omega) (by omega)
      omega
     have sP:¬ (n<0):=by omega
     have E9:¬ (l<0):=by omega
     have Vk:¬ (l>n):=by omega
     have eX:(sizeOf e).run P w=.ok i.size w:=by simp [sizeOf,typeInfo,hi]
     have M8:(typeInfo e).run P w=.ok i w:=by simp [typeInfo,hi]
     simp only [Instr.makeSlice,Sem.run_bind,run_underlying ht,Result.andThen_ok,conc,asInt,asIntOf,Sem.run_pure,M8,w1,w2]
     have J:(((decide (n<0)||decide ((i.bytes:Int)*n>2^48))||decide (l<0))||decide (l>n))=false:=by
      simp only [sP,hb,E9,Vk,rA,Bool.or_self]
     rw [J]
     simp only [eY,bN]
     by_cases h0:n.toNat*i.size=0
     ·have hn:n.toNat=0:=by
       rcases Nat.mul_eq_zero.1 h0 with e1 | e1
       ·exact e1
       ·omega
      rw [hn]
      have wz:(Array.map (fun (_:Nat)=>(default:Value)) (Array.range 0)) = #[]:=by simp [Array.range]
      simp [Go.newRow,h.next,bD,repeatL,eX,wz]
     ·have Br:((Array.range (n.toNat*i.size)).map fun j=>((z.cells.map (conc c)).toArray)[j%((z.cells.map (conc c)).toArray).size]!)=((repeatL z.cells n.toNat).map (conc c)).toArray:=by
       rw [←q5]; exact qo c z.cells n.toNat (by omega)
      have GK:(conc c z).cells=(z.cells.map (conc c)).toArray:=fJ c z
      simp only [Sem.run_bind,Sem.run_pure,run_askRoom,Result.andThen_ok,eX,h0,bN,z1,GK,Br,Go.newRow,run_newObj]
      simp [h.next,bD]
    ·simp [wf,h.next,lG]; omega
  ·simp at I
 ·simp at I
theorem I5 (h:Rel c σ w)(t:TypeId): g_ P (Instr.makeMap t none) c w (.map σ.next) (σ.new (.map [] 0)):=by
 have g:=h.new (.map [] 0) (.map #[] 0) 0 rfl ⟨by simp,by rw [bD,iF]; simp⟩
 refine ⟨_,_,?_,?_,g.1,g.2⟩
 ·simp [Instr.makeMap,conc,h.next,bD]
 ·simp [wf,h.next,lG]
theorem Cs {α β:Type}(g:α→β)(f:α→α)(f':β→β)(I:∀x,g (f x)=f' (g x)): ∀(l:List α) (k:Nat),(setNth l k f).map g=(l.map g).modify k f':=by
 intro l
 induction l with
 | nil=>intro k; simp [setNth]
 | cons x l J =>
  intro k
  cases k with
  | zero=>simp [setNth,I]
  | succ k=>simp only [setNth,cS (vY k),ay,tD,bI,J,List.modify_succ_cons]
theorem Ct {α:Type}{f:α→α}: ∀ {l:List α} {k:Nat} {x:α},x∈setNth l k f→x∈l∨∃y∈l,x=f y:=by
 intro l
 induction l with
 | nil=>intro k x h; simp [setNth] at h
 | cons y l I =>
  intro k x h
  cases k with
  | zero =>
   simp only [setNth,dx,ag,fo] at h
   rcases h with rfl | h
   ·exact .inr ⟨y,by simp,rfl⟩
   ·exact .inl (by simp [h])
  | succ k =>
   simp only [setNth,cS (vY k),ay,fo] at h
   rcases h with rfl | h
   ·exact .inl (by simp)
   ·rcases I h with h | ⟨z,J,rfl⟩
    ·exact .inl (by simp [h])
    ·exact .inr ⟨z,by simp [J],rfl⟩
theorem Li {α:Type}: ∀(l:List α) (k:Nat),kJ l k=l.eraseIdx k:=by
 intro l
 induction l with
 | nil=>intro k; simp [kJ]
 | cons x l I =>
  intro k
  cases k with
  | zero=>simp [kJ]
  | succ k=>simp only [kJ,cS (vY k),ay,tD,I,List.eraseIdx_cons_succ]
theorem I6 {α β:Type}(g:α→β): ∀(l:List α) (k:Nat),(kJ l k).map g=(l.map g).eraseIdx k:=by
 intro l
 induction l with
 | nil=>intro k; simp [kJ]
 | cons x l I =>
  intro k
  cases k with
  | zero=>simp [kJ]
  | succ k=>simp only [kJ,cS (vY k),ay,tD,bI,I,List.eraseIdx_cons_succ]
theorem Bt {d:TypeDesc}{a b:V}(h:keyBeq d a b=some true)(J:wf c a)(U:wf c b): conc c a=conc c b∧∀n,Instr.sameBits n (conc c b) (conc c a)=true:=by
 unfold keyBeq at h
 split at h
 ·rename_i j x k y
  cases I:ikBeq j k with
  | false=>simp [I] at h
  | true =>
   have:=oW I
   subst this
   simp only [I,ag,au,ny,beq_iff_eq] at h
   subst h
   exact ⟨rfl,fun n=>by cases n <;> simp [conc,Instr.sameBits]⟩
 ·rename_i x y
  simp only [au,sY,beq_iff_eq] at h
  subst h
  refine ⟨rfl,fun n => ?_⟩
  have:((⟨(x.map UInt8.ofNat).toArray⟩:ByteArray) == ⟨(x.map UInt8.ofNat).toArray⟩)=true:=by
   rw [yN (by simpa [wf] using J) (by simpa [wf] using J),sY]; simp
  cases n <;> simp [conc,Instr.sameBits,this]
 ·simp at h
theorem wA {t:TypeId}{x k v:V}{iJ:H}(h:Rel c σ w)(I:mapUpdateV P σ t x k v=some iJ)(hk:wf c k)(hv:wf c v):
  PV P (Instr.mapUpdate t (conc c x) (conc c k) (conc c v)) c w iJ:=by
 unfold mapUpdateV at I
 generalize ht:P.underlying t=dt at I
 split at I
 ·rename_i kt et
  generalize hd:P.underlying kt=dk at I
  split at I
  ·rename_i d id
   split at I
   ·rename_i es clock hg
    obtain ⟨hw,hb⟩:=h.obj id _ hg
    have sq:=ko (P:=P) hb (by simp)
    split at I
    ·rename_i b i u U hf
     simp only [au] at I
     subst I
     have Vl:=lJ (P:=P) hd hk hf hw w
     obtain ⟨e,g1,_,g3,g4⟩:=(w8 hk es 0 _ hf hw).2 (i,u) rfl
     simp only [kH] at g1
     have R6:=hw e (bw g1)
     obtain ⟨s1,s2⟩:=Bt g4 hk R6.1
     have hm:=h.uj (es':=setNth es i fun e=>(e.1,v,e.2.2)) (k':=clock) hg (by
      intro y J
      rcases Ct J with J | ⟨z,hz,rfl⟩
      ·exact hw y J
      ·exact ⟨(hw z hz).1,hv⟩)
     refine ⟨_,_,?_,hm.1,hm.2⟩
     simp only [Instr.mapUpdate,Sem.run_bind,run_underlying ht,Result.andThen_ok,conc,sq]
     rw [jy hd U]
     simp only [Result.andThen_ok,Vl,iW,Sem.run_bind]
     have yM:((es.map (cq c)).toArray[i]?.map (·.key)).getD (conc c k)=conc c e.1:=by simp [g1,cq]
     rw [yM]
     simp only [Instr.keyThatStays,s2,bQ,Sem.run_pure,Result.andThen_ok]
     rw [lH hb (by simp)]
     congr 3
     rw [Cs (cq c) _ (fun e=>{ e with val:=conc c v }) (by intro y; simp [cq])]
     rw [DV]
     congr 2
     -- the key that stays is the elder one
     apply AF
     intro j
     simp only [List.getElem?_modify]
     by_cases hj:i=j
     ·subst hj
      simp [g1,cq,s1]
     ·simp [hj]
    ·rename_i b U hf
     simp only [au] at I
     subst I
     have Vl:=lJ (P:=P) hd hk hf hw w
     have hm:=h.uj (es':=es++[(k,v,clock)]) (k':=clock+1) hg (by
      intro y J
      simp only [rj,vU] at J
      rcases J with J | rfl
      ·exact hw y J
      ·exact ⟨hk,hv⟩)
     refine ⟨_,_,?_,hm.1,hm.2⟩
     simp only [Instr.mapUpdate,Sem.run_bind,run_underlying ht,Result.andThen_ok,conc,sq]
     rw [jy hd U]
     simp only [Result.andThen_ok,Vl,iX]
     rw [lH hb (by simp)]
     congr 3
     simp [cq]
    ·simp at I
   ·simp at I
  ·simp at I
 ·simp at I
theorem F3 {t:TypeId}{x k v:V}{iJ:H}(h:Rel c σ w)(I:mapEntryV P σ t x k=some (v,iJ))(hk:wf c k):
  g_ P (Instr.mapEntry t (conc c x) (conc c k)) c w v iJ:=by
 unfold mapEntryV at I
 generalize ht:P.underlying t=dt at I
 split at I
 ·rename_i kt et
  generalize hd:P.underlying kt=dk at I
  split at I
  ·rename_i d z id hz
   obtain ⟨z1,z2⟩:=ga hz c w
   split at I
   ·rename_i es clock hg
    obtain ⟨hw,hb⟩:=h.obj id _ hg
    have sq:=ko (P:=P) hb (by simp)
    split at I
    ·rename_i b i u J hf
     rw [fV] at I
     have U:=lJ (P:=P) hd hk hf hw w
     obtain ⟨e,g1,_,g3,g4⟩:=(w8 hk es 0 _ hf hw).2 (i,u) rfl
     simp only [kH] at g1
     simp only [g1,au,aP] at I
     obtain ⟨rfl,rfl⟩:=I
     have R6:=hw e (bw g1)
     obtain ⟨s1,s2⟩:=Bt g4 hk R6.1
     have hu:wf c u:=by simp only at g3; rw [g3]; exact R6.2
     refine g_.same h ⟨?_,by simp [wf,fW,hu]⟩
     simp only [Instr.mapEntry,Sem.run_bind,run_underlying ht,Result.andThen_ok,conc,sq]
     rw [jy hd J]
     simp only [Result.andThen_ok,U,iW,Sem.run_bind]
     have yM:((es.map (cq c)).toArray[i]?.map (·.key)).getD (conc c k)=conc c e.1:=by simp [g1,cq]
     rw [yM]
     simp only [Instr.keyThatStays,s2,bQ,Sem.run_pure,Result.andThen_ok]
     rw [lH hb (by simp)]
     have Lj:({ w with heap:=w.heap.setIfInBounds (c.ρ id).1 (.map ((es.map (cq c)).toArray.modify i fun e=>{ e with key:=conc c k }) clock) }:World)=w:=by
      have:(es.map (cq c)).toArray.modify i (fun e=>{ e with key:=conc c k })=(es.map (cq c)).toArray:=by
       rw [DV]
       congr 1
       apply AF
       intro j
       simp only [List.getElem?_modify]
       by_cases hj:i=j
       ·subst hj; simp [g1,cq,s1]
       ·simp [hj]
      rw [this]
      obtain ⟨bV,u9⟩:=Array.getElem?_eq_some_iff.1 hb
      have:w.heap.setIfInBounds (c.ρ id).1 (.map (es.map (cq c)).toArray clock)=w.heap:=by
       apply qZ
       intro j
       rw [m5]
       by_cases hj:(c.ρ id).1=j
       ·subst hj; simp [bV,u9]
       ·simp [hj]
      rw [this]
     rw [Lj]
     simp [g1,cq,conc,concL,goInt]
    ·rename_i b J hf
     simp only [au,aP] at I
     obtain ⟨rfl,rfl⟩:=I
     have U:=lJ (P:=P) hd hk hf hw w
     have hm:=h.uj (es':=es++[(k,z,clock)]) (k':=clock+1) hg (by
      intro y hy
      simp only [rj,vU] at hy
      rcases hy with hy | rfl
      ·exact hw y hy
      ·exact ⟨hk,z2⟩)
     refine ⟨_,_,?_,by simp [wf,fW,z2],hm.1,hm.2⟩
     simp only [Instr.mapEntry,Sem.run_bind,run_underlying ht,Result.andThen_ok,conc,sq]
     rw [jy hd J]
     simp only [Result.andThen_ok,U,iX,Sem.run_bind,z1]
     rw [lH hb (by simp)]
     simp [cq,concL,conc,goInt]
    ·simp at I
   ·simp at I
  ·simp at I
 ·simp at I
theorem I7 (c:Ctx)(b:Int): ∀(es:List (V×V×Nat)) (i j:Nat),findBorn es b i=some j →
  (es.map (cq c)).findIdx? (fun e=>(e.born:Int) == b)=some (j-i)∧i≤j:=by
 intro es
 induction es with
 | nil=>intro i j h; simp [findBorn] at h
 | cons e es U =>
  intro i j h
  simp only [findBorn,ny] at h
  by_cases I:(e.2.2:Int)=b
  ·have:((e.2.2:Int) == b)=true:=by simpa using I
   rw [this,ag,au] at h
   subst h
   simp [List.findIdx?_cons,cq,I]
  ·have:((e.2.2:Int) == b)=false:=by simpa using I
   rw [this,ay] at h
   obtain ⟨h1,h2⟩:=U (i+1) j h
   refine ⟨?_,by omega⟩
   rw [bI,List.findIdx?_cons,h1]
   have J:(((cq c e).born:Int) == b)=false:=by simpa [cq] using I
   rw [J]
   simp
   omega
theorem Cv {t:TypeId}{x s v:V}{J:H}(h:Rel c σ w)(I:entryStoreV σ x s v=some J)(hv:wf c v):
  PV P (Instr.entryStore t (conc c x) (conc c s) (conc c v)) c w J:=by
 unfold entryStoreV at I
 split at I
 ·rename_i id k b
  split at I
  ·rename_i es clock hg
   obtain ⟨hw,hb⟩:=h.obj id _ hg
   have U:=ko (P:=P) hb (by simp)
   cases hf:findBorn es b 0 with
   | none=>simp [hf] at I
   | some i =>
    simp only [hf,au] at I
    subst I
    have Zh:=(I7 c b es 0 i hf).1
    have hm:=h.uj (es':=setNth es i fun e=>(e.1,v,e.2.2)) (k':=clock) hg (by
     intro y hy
     rcases Ct hy with hy | ⟨z,hz,rfl⟩
     ·exact hw y hy
     ·exact ⟨(hw z hz).1,hv⟩)
    refine ⟨_,_,?_,hm.1,hm.2⟩
    simp only [Instr.entryStore,conc,Sem.run_bind,U,Result.andThen_ok,asInt,asIntOf,Sem.run_pure]
    have hfa:(es.map (cq c)).toArray.findIdx? (fun e=>(e.born:Int) == b)=some i:=by
     simpa using Zh
    rw [hfa]
    simp only
    rw [lH hb (by simp)]
    congr 3
    rw [Cs (cq c) _ (fun e=>{ e with val:=conc c v }) (by intro y; simp [cq])]
    rw [DV]
  ·simp at I
 ·simp at I
theorem I8 {t ty:TypeId}{x k:V}{iJ:H}(h:Rel c σ w)(I:m9 P σ t x k=some iJ)(hk:wf c k)(ts:Array TypeId)(J3:ts[0]?=some t):
  ∃w' c',(Builtin.delete_ ts ty #[conc c x,conc c k]).run P w=.ok (.tuple #[]) w'∧Rel c' iJ w'∧dL c w c' w':=by
 unfold m9 at I
 generalize ht:P.underlying t=dt at I
 split at I
 ·rename_i kt et
  generalize hd:P.underlying kt=dk at I
  split at I
  ·rename_i d id
   split at I
   ·rename_i es clock hg
    obtain ⟨hw,hb⟩:=h.obj id _ hg
    have sq:=ko (P:=P) hb (by simp)
    split at I
    ·rename_i b i u J hf
     simp only [au] at I
     subst I
     have U:=lJ (P:=P) hd hk hf hw w
     have hm:=h.uj (es':=kJ es i) (k':=clock) hg (by
      intro y hy
      rw [Li] at hy
      exact hw y (List.mem_of_mem_eraseIdx hy))
     refine ⟨_,_,?_,hm.1,hm.2⟩
     simp only [Builtin.delete_,J3,m6,nU,kF,Sem.run_bind,run_underlying ht,Result.andThen_ok,conc,sq]
     rw [jy hd J]
     simp only [Result.andThen_ok,U,iW,Sem.run_bind]
     rw [lH hb (by simp)]
     simp [I6]
    ·rename_i b J hf
     simp only [au] at I
     subst I
     have U:=lJ (P:=P) hd hk hf hw w
     have hm:=h.uj (es':=es) (k':=clock) hg hw
     refine ⟨w,c,?_,h,dL.refl c w⟩
     simp only [Builtin.delete_,J3,m6,nU,kF,Sem.run_bind,run_underlying ht,Result.andThen_ok,conc,sq]
     rw [jy hd J]
     simp only [Result.andThen_ok,U,iX,Sem.run_bind]
     rw [lH hb (by simp)]
     obtain ⟨bV,u9⟩:=Array.getElem?_eq_some_iff.1 hb
     have:w.heap.setIfInBounds (c.ρ id).1 (.map (es.map (cq c)).toArray clock)=w.heap:=by
      apply qZ
      intro j
      rw [m5]
      by_cases hj:(c.ρ id).1=j
      ·subst hj; simp [bV,u9]
      ·simp [hj]
     simp [this]
    ·simp at I
   ·simp at I
  ·simp at I
 ·simp at I
end
end Go.Proofs.YtconhghphklfjaaGreat.Am
