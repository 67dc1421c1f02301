/- Part 4 of the proof: Rb, Rc, Rd, Re, Rf, Rg, Kf, Kg, Kh, Ki, Kj, Kk, Kl, Km, Kn, Ia, Ib, Ic, Id, Rh, Ha, Hb, Hc, He, Hf, Hd, Ja, Jb. -/
import Derived.Test.YtjlcdlekmpjjnaaGreatPC
import Derived.Test.YtjlcdlekmpjjnaaGreatPB
namespace Go.Proofs.YtjlcdlekmpjjnaaGreat.Rg
set_option maxRecDepth 100000
set_option maxHeartbeats 4000000
theorem AGg {F:Type} [CR F] (x1 y1 x2 y2 l b:F) (hl:(l*(x2-x1))=(y2-y1)) (c1:(y1*y1)=(((x1*x1)*x1)+b)) (c2:(y2*y2)=(((x2*x2)*x2)+b)):((x2-x1)*((((x1*x2)+(x1*(((l*l)-x1)-x2)))+(x2*(((l*l)-x1)-x2)))+((l*(y1-(l*x1)))+(l*(y1-(l*x1))))))=0 :=
 AT.1 (BG [x1,y1,x2,y2,l,b] (.sub (.mul (.sub (.v 2) (.v 0)) (.add (.add (.add (.mul (.v 0) (.v 2)) (.mul (.v 0) (.sub (.sub (.mul (.v 4) (.v 4)) (.v 0)) (.v 2)))) (.mul (.v 2) (.sub (.sub (.mul (.v 4) (.v 4)) (.v 0)) (.v 2)))) (.add (.mul (.v 4) (.sub (.v 1) (.mul (.v 4) (.v 0)))) (.mul (.v 4) (.sub (.v 1) (.mul (.v 4) (.v 0))))))) (.c 0)) [((.add (.add (.neg (.mul (.v 0) (.v 4))) (.v 1)) (.add (.mul (.v 2) (.v 4)) (.v 3))),.sub (.mul (.v 4) (.sub (.v 2) (.v 0))) (.sub (.v 3) (.v 1))),
  ((.c (-1)),.sub (.mul (.v 1) (.v 1)) (.add (.mul (.mul (.v 0) (.v 0)) (.v 0)) (.v 5))),
  ((.c 1),.sub (.mul (.v 3) (.v 3)) (.add (.mul (.mul (.v 2) (.v 2)) (.v 2)) (.v 5)))] ⟨AT.2 hl,AT.2 c1,AT.2 c2,trivial⟩ (by kernel_rfl))
theorem AGh {F:Type} [CR F] (x y l:F) (hl:((y+y)*l)=(((x*x)+(x*x))+(x*x))):((((x*x)+(x*(((l*l)-x)-x)))+(x*(((l*l)-x)-x)))+((l*(y-(l*x)))+(l*(y-(l*x)))))=0 :=
 AT.1 (BG [x,y,l] (.sub (.add (.add (.add (.mul (.v 0) (.v 0)) (.mul (.v 0) (.sub (.sub (.mul (.v 2) (.v 2)) (.v 0)) (.v 0)))) (.mul (.v 0) (.sub (.sub (.mul (.v 2) (.v 2)) (.v 0)) (.v 0)))) (.add (.mul (.v 2) (.sub (.v 1) (.mul (.v 2) (.v 0)))) (.mul (.v 2) (.sub (.v 1) (.mul (.v 2) (.v 0)))))) (.c 0)) [((.c 1),.sub (.mul (.add (.v 1) (.v 1)) (.v 2)) (.add (.add (.mul (.v 0) (.v 0)) (.mul (.v 0) (.v 0))) (.mul (.v 0) (.v 0))))] ⟨AT.2 hl,trivial⟩ (by kernel_rfl))
theorem AGi {F:Type} [CR F] (x1 y1 x2 l b:F) (e2:((((x1*x2)+(x1*(((l*l)-x1)-x2)))+(x2*(((l*l)-x1)-x2)))+((l*(y1-(l*x1)))+(l*(y1-(l*x1)))))=0) (c1:(y1*y1)=(((x1*x1)*x1)+b)):(((x1*x2)*(((l*l)-x1)-x2))+b)=((y1-(l*x1))*(y1-(l*x1))) :=
 AT.1 (BG [x1,y1,x2,l,b] (.sub (.add (.mul (.mul (.v 0) (.v 2)) (.sub (.sub (.mul (.v 3) (.v 3)) (.v 0)) (.v 2))) (.v 4)) (.mul (.sub (.v 1) (.mul (.v 3) (.v 0))) (.sub (.v 1) (.mul (.v 3) (.v 0))))) [((.v 0),.sub (.add (.add (.add (.mul (.v 0) (.v 2)) (.mul (.v 0) (.sub (.sub (.mul (.v 3) (.v 3)) (.v 0)) (.v 2)))) (.mul (.v 2) (.sub (.sub (.mul (.v 3) (.v 3)) (.v 0)) (.v 2)))) (.add (.mul (.v 3) (.sub (.v 1) (.mul (.v 3) (.v 0)))) (.mul (.v 3) (.sub (.v 1) (.mul (.v 3) (.v 0)))))) (.c 0)),
  ((.c (-1)),.sub (.mul (.v 1) (.v 1)) (.add (.mul (.mul (.v 0) (.v 0)) (.v 0)) (.v 4)))] ⟨AT.2 e2,AT.2 c1,trivial⟩ (by kernel_rfl))
theorem AGj {F:Type} [CR F] (x1 y1 x2 x3 l n b:F) (h1:y1=((l*x1)+n)) (e1:((x1+x2)+x3)=(l*l)) (e2:((((x1*x2)+(x1*x3))+(x2*x3))+((l*n)+(l*n)))=0) (e3:(((x1*x2)*x3)+b)=(n*n)):(y1*y1)=(((x1*x1)*x1)+b) :=
 AT.1 (BG [x1,y1,x2,x3,l,n,b] (.sub (.mul (.v 1) (.v 1)) (.add (.mul (.mul (.v 0) (.v 0)) (.v 0)) (.v 6))) [((.add (.mul (.v 0) (.v 4)) (.add (.v 1) (.v 5))),.sub (.v 1) (.add (.mul (.v 4) (.v 0)) (.v 5))),
  ((.neg (.pw (.v 0) 2)),.sub (.add (.add (.v 0) (.v 2)) (.v 3)) (.mul (.v 4) (.v 4))),
  ((.v 0),.sub (.add (.add (.add (.mul (.v 0) (.v 2)) (.mul (.v 0) (.v 3))) (.mul (.v 2) (.v 3))) (.add (.mul (.v 4) (.v 5)) (.mul (.v 4) (.v 5)))) (.c 0)),
  ((.c (-1)),.sub (.add (.mul (.mul (.v 0) (.v 2)) (.v 3)) (.v 6)) (.mul (.v 5) (.v 5)))] ⟨AT.2 h1,AT.2 e1,AT.2 e2,AT.2 e3,trivial⟩ (by kernel_rfl))
theorem qB {F:Type} [CR F] (x1 y1 x3 l n:F) (h1:y1=((l*x1)+n)) (e1:((x1+x1)+x3)=(l*l)) (e2:((((x1*x1)+(x1*x3))+(x1*x3))+((l*n)+(l*n)))=0):((y1+y1)*l)=(((x1*x1)+(x1*x1))+(x1*x1)) :=
 AT.1 (BG [x1,y1,x3,l,n] (.sub (.mul (.add (.v 1) (.v 1)) (.v 3)) (.add (.add (.mul (.v 0) (.v 0)) (.mul (.v 0) (.v 0))) (.mul (.v 0) (.v 0)))) [((.mul (.c 2) (.v 3)),.sub (.v 1) (.add (.mul (.v 3) (.v 0)) (.v 4))),
  ((.mul (.c (-2)) (.v 0)),.sub (.add (.add (.v 0) (.v 0)) (.v 2)) (.mul (.v 3) (.v 3))),
  ((.c 1),.sub (.add (.add (.add (.mul (.v 0) (.v 0)) (.mul (.v 0) (.v 2))) (.mul (.v 0) (.v 2))) (.add (.mul (.v 3) (.v 4)) (.mul (.v 3) (.v 4)))) (.c 0))] ⟨AT.2 h1,AT.2 e1,AT.2 e2,trivial⟩ (by kernel_rfl))
theorem AGk {F:Type} [CR F] (x1 y1 x3 y3 l n:F) (h1:y1=((l*x1)+n)) (h3:y3=((l*x3)+n)):((l*(x1-x3))-y1)=(-y3) :=
 AT.1 (BG [x1,y1,x3,y3,l,n] (.sub (.sub (.mul (.v 4) (.sub (.v 0) (.v 2))) (.v 1)) (.neg (.v 3))) [((.c (-1)),.sub (.v 1) (.add (.mul (.v 4) (.v 0)) (.v 5))),
  ((.c 1),.sub (.v 3) (.add (.mul (.v 4) (.v 2)) (.v 5)))] ⟨AT.2 h1,AT.2 h3,trivial⟩ (by kernel_rfl))
theorem AGl {F:Type} [CR F] (x1 x2 x3 l:F) (e1:((x1+x2)+x3)=(l*l)):(((l*l)-x1)-x2)=x3 :=
 AT.1 (BG [x1,x2,x3,l] (.sub (.sub (.sub (.mul (.v 3) (.v 3)) (.v 0)) (.v 1)) (.v 2)) [((.c (-1)),.sub (.add (.add (.v 0) (.v 1)) (.v 2)) (.mul (.v 3) (.v 3)))] ⟨AT.2 e1,trivial⟩ (by kernel_rfl))
theorem OL {F:Type} [CR F] (x1 y1 x2 y2 l n:F) (h1:y1=((l*x1)+n)) (h2:y2=((l*x2)+n)):((x2-x1)*l)=(y2-y1) :=
 AT.1 (BG [x1,y1,x2,y2,l,n] (.sub (.mul (.sub (.v 2) (.v 0)) (.v 4)) (.sub (.v 3) (.v 1))) [((.c 1),.sub (.v 1) (.add (.mul (.v 4) (.v 0)) (.v 5))),
  ((.c (-1)),.sub (.v 3) (.add (.mul (.v 4) (.v 2)) (.v 5)))] ⟨AT.2 h1,AT.2 h2,trivial⟩ (by kernel_rfl))
theorem AGm {F:Type} [CR F] (x1 x2 x3 k:F) (e:((x1+x2)+x3)=k):((x2+x1)+x3)=k :=
 AT.1 (BG [x1,x2,x3,k] (.sub (.add (.add (.v 1) (.v 0)) (.v 2)) (.v 3)) [((.c 1),.sub (.add (.add (.v 0) (.v 1)) (.v 2)) (.v 3))] ⟨AT.2 e,trivial⟩ (by kernel_rfl))
theorem AGn {F:Type} [CR F] (x1 x2 x3 k:F) (e:((x1+x2)+x3)=k):((x2+x3)+x1)=k :=
 AT.1 (BG [x1,x2,x3,k] (.sub (.add (.add (.v 1) (.v 2)) (.v 0)) (.v 3)) [((.c 1),.sub (.add (.add (.v 0) (.v 1)) (.v 2)) (.v 3))] ⟨AT.2 e,trivial⟩ (by kernel_rfl))
theorem AGo {F:Type} [CR F] (x1 x2 x3 k:F) (e:((((x1*x2)+(x1*x3))+(x2*x3))+k)=0):((((x2*x1)+(x2*x3))+(x1*x3))+k)=0 :=
 AT.1 (BG [x1,x2,x3,k] (.sub (.add (.add (.add (.mul (.v 1) (.v 0)) (.mul (.v 1) (.v 2))) (.mul (.v 0) (.v 2))) (.v 3)) (.c 0)) [((.c 1),.sub (.add (.add (.add (.mul (.v 0) (.v 1)) (.mul (.v 0) (.v 2))) (.mul (.v 1) (.v 2))) (.v 3)) (.c 0))] ⟨AT.2 e,trivial⟩ (by kernel_rfl))
theorem AGp {F:Type} [CR F] (x1 x2 x3 k:F) (e:((((x1*x2)+(x1*x3))+(x2*x3))+k)=0):((((x2*x3)+(x2*x1))+(x3*x1))+k)=0 :=
 AT.1 (BG [x1,x2,x3,k] (.sub (.add (.add (.add (.mul (.v 1) (.v 2)) (.mul (.v 1) (.v 0))) (.mul (.v 2) (.v 0))) (.v 3)) (.c 0)) [((.c 1),.sub (.add (.add (.add (.mul (.v 0) (.v 1)) (.mul (.v 0) (.v 2))) (.mul (.v 1) (.v 2))) (.v 3)) (.c 0))] ⟨AT.2 e,trivial⟩ (by kernel_rfl))
theorem AGq {F:Type} [CR F] (x1 x2 x3 b k:F) (e:(((x1*x2)*x3)+b)=k):(((x2*x1)*x3)+b)=k :=
 AT.1 (BG [x1,x2,x3,b,k] (.sub (.add (.mul (.mul (.v 1) (.v 0)) (.v 2)) (.v 3)) (.v 4)) [((.c 1),.sub (.add (.mul (.mul (.v 0) (.v 1)) (.v 2)) (.v 3)) (.v 4))] ⟨AT.2 e,trivial⟩ (by kernel_rfl))
theorem AGr {F:Type} [CR F] (x1 x2 x3 b k:F) (e:(((x1*x2)*x3)+b)=k):(((x2*x3)*x1)+b)=k :=
 AT.1 (BG [x1,x2,x3,b,k] (.sub (.add (.mul (.mul (.v 1) (.v 2)) (.v 0)) (.v 3)) (.v 4)) [((.c 1),.sub (.add (.mul (.mul (.v 0) (.v 1)) (.v 2)) (.v 3)) (.v 4))] ⟨AT.2 e,trivial⟩ (by kernel_rfl))
theorem Zs {F:Type} [CR F] (x y l n:F) (h:y=((l*x)+n)):(-y)=(((-l)*x)+(-n)) :=
 AT.1 (BG [x,y,l,n] (.sub (.neg (.v 1)) (.add (.mul (.neg (.v 2)) (.v 0)) (.neg (.v 3)))) [((.c (-1)),.sub (.v 1) (.add (.mul (.v 2) (.v 0)) (.v 3)))] ⟨AT.2 h,trivial⟩ (by kernel_rfl))
theorem neg_sq {F:Type} [CR F] (l:F) :((-l)*(-l))=(l*l) :=
 AT.1 (BG [l] (.sub (.mul (.neg (.v 0)) (.neg (.v 0))) (.mul (.v 0) (.v 0))) [] trivial (by kernel_rfl))
theorem AGs {F:Type} [CR F] (l n:F) :(((-l)*(-n))+((-l)*(-n)))=((l*n)+(l*n)) :=
 AT.1 (BG [l,n] (.sub (.add (.mul (.neg (.v 0)) (.neg (.v 1))) (.mul (.neg (.v 0)) (.neg (.v 1)))) (.add (.mul (.v 0) (.v 1)) (.mul (.v 0) (.v 1)))) [] trivial (by kernel_rfl))
theorem AGt {F:Type} [CR F] (y1 y2 k:F) (h1:(y1*y1)=k) (h2:(y2*y2)=k):((y1-y2)*(y1+y2))=0 :=
 AT.1 (BG [y1,y2,k] (.sub (.mul (.sub (.v 0) (.v 1)) (.add (.v 0) (.v 1))) (.c 0)) [((.c 1),.sub (.mul (.v 0) (.v 0)) (.v 2)),
  ((.c (-1)),.sub (.mul (.v 1) (.v 1)) (.v 2))] ⟨AT.2 h1,AT.2 h2,trivial⟩ (by kernel_rfl))
theorem Uh {F:Type} [CR F] (x y1 y2 l n:F) (h1:y1=((l*x)+n)) (h2:y2=((l*x)+n)):y1=y2 :=
 AT.1 (BG [x,y1,y2,l,n] (.sub (.v 1) (.v 2)) [((.c 1),.sub (.v 1) (.add (.mul (.v 3) (.v 0)) (.v 4))),
  ((.c (-1)),.sub (.v 2) (.add (.mul (.v 3) (.v 0)) (.v 4)))] ⟨AT.2 h1,AT.2 h2,trivial⟩ (by kernel_rfl))
theorem AGu {F:Type} [CR F] (x1 x2 y2 x4 l n:F) (h2:y2=((l*x2)+n)) (e1:((x1+x2)+x4)=(l*l)) (e2:((((x1*x2)+(x1*x4))+(x2*x4))+((l*n)+(l*n)))=0):(((l*y2)+(l*y2))+((l*l)*(x1-x2)))=(((x1*x1)+(x1*x2))+(x2*x2)) :=
 AT.1 (BG [x1,x2,y2,x4,l,n] (.sub (.add (.add (.mul (.v 4) (.v 2)) (.mul (.v 4) (.v 2))) (.mul (.mul (.v 4) (.v 4)) (.sub (.v 0) (.v 1)))) (.add (.add (.mul (.v 0) (.v 0)) (.mul (.v 0) (.v 1))) (.mul (.v 1) (.v 1)))) [((.mul (.c 2) (.v 4)),.sub (.v 2) (.add (.mul (.v 4) (.v 1)) (.v 5))),
  ((.add (.neg (.v 0)) (.neg (.v 1))),.sub (.add (.add (.v 0) (.v 1)) (.v 3)) (.mul (.v 4) (.v 4))),
  ((.c 1),.sub (.add (.add (.add (.mul (.v 0) (.v 1)) (.mul (.v 0) (.v 3))) (.mul (.v 1) (.v 3))) (.add (.mul (.v 4) (.v 5)) (.mul (.v 4) (.v 5)))) (.c 0))] ⟨AT.2 h2,AT.2 e1,AT.2 e2,trivial⟩ (by kernel_rfl))
theorem qC {F:Type} [CR F] (x2 y2 x3 x5 m q:F) (h2:y2=((m*x2)+q)) (e1:((x2+x3)+x5)=(m*m)) (e2:((((x2*x3)+(x2*x5))+(x3*x5))+((m*q)+(m*q)))=0):(((m*y2)+(m*y2))+((m*m)*(x3-x2)))=(((x3*x3)+(x3*x2))+(x2*x2)) :=
 AT.1 (BG [x2,y2,x3,x5,m,q] (.sub (.add (.add (.mul (.v 4) (.v 1)) (.mul (.v 4) (.v 1))) (.mul (.mul (.v 4) (.v 4)) (.sub (.v 2) (.v 0)))) (.add (.add (.mul (.v 2) (.v 2)) (.mul (.v 2) (.v 0))) (.mul (.v 0) (.v 0)))) [((.mul (.c 2) (.v 4)),.sub (.v 1) (.add (.mul (.v 4) (.v 0)) (.v 5))),
  ((.add (.neg (.v 0)) (.neg (.v 2))),.sub (.add (.add (.v 0) (.v 2)) (.v 3)) (.mul (.v 4) (.v 4))),
  ((.c 1),.sub (.add (.add (.add (.mul (.v 0) (.v 2)) (.mul (.v 0) (.v 3))) (.mul (.v 2) (.v 3))) (.add (.mul (.v 4) (.v 5)) (.mul (.v 4) (.v 5)))) (.c 0))] ⟨AT.2 h2,AT.2 e1,AT.2 e2,trivial⟩ (by kernel_rfl))
theorem AGv {F:Type} [CR F] (x1 x2 x3 y2 l m s t:F) (r1:(((l*y2)+(l*y2))+((l*l)*(x1-x2)))=(((x1*x1)+(x1*x2))+(x2*x2))) (r2:(((m*y2)+(m*y2))+((m*m)*(x3-x2)))=(((x3*x3)+(x3*x2))+(x2*x2))) (hs:(s*((((l*l)-x1)-x2)-x3))=(((l*(x2-(((l*l)-x1)-x2)))-y2)-(y2+(m*(x3-x2))))) (ht:(t*((((m*m)-x2)-x3)-x1))=(((m*(x2-(((m*m)-x2)-x3)))-y2)-(y2+(l*(x1-x2))))):(((((((l*l)-x1)-x2)-x3)*((((l*l)-x1)-x2)-x3))*(((((m*m)-x2)-x3)-x1)*((((m*m)-x2)-x3)-x1)))*(((s*s)-(((l*l)-x1)-x2))-x3))=(((((((l*l)-x1)-x2)-x3)*((((l*l)-x1)-x2)-x3))*(((((m*m)-x2)-x3)-x1)*((((m*m)-x2)-x3)-x1)))*(((t*t)-x1)-(((m*m)-x2)-x3))) :=
 AT.1 (BG [x1,x2,x3,y2,l,m,s,t] (.sub (.mul (.mul (.mul (.sub (.sub (.sub (.mul (.v 4) (.v 4)) (.v 0)) (.v 1)) (.v 2)) (.sub (.sub (.sub (.mul (.v 4) (.v 4)) (.v 0)) (.v 1)) (.v 2))) (.mul (.sub (.sub (.sub (.mul (.v 5) (.v 5)) (.v 1)) (.v 2)) (.v 0)) (.sub (.sub (.sub (.mul (.v 5) (.v 5)) (.v 1)) (.v 2)) (.v 0)))) (.sub (.sub (.mul (.v 6) (.v 6)) (.sub (.sub (.mul (.v 4) (.v 4)) (.v 0)) (.v 1))) (.v 2))) (.mul (.mul (.mul (.sub (.sub (.sub (.mul (.v 4) (.v 4)) (.v 0)) (.v 1)) (.v 2)) (.sub (.sub (.sub (.mul (.v 4) (.v 4)) (.v 0)) (.v 1)) (.v 2))) (.mul (.sub (.sub (.sub (.mul (.v 5) (.v 5)) (.v 1)) (.v 2)) (.v 0)) (.sub (.sub (.sub (.mul (.v 5) (.v 5)) (.v 1)) (.v 2)) (.v 0)))) (.sub (.sub (.mul (.v 7) (.v 7)) (.v 0)) (.sub (.sub (.mul (.v 5) (.v 5)) (.v 1)) (.v 2))))) [((.add (.add (.add (.add (.add (.mul (.c (-2)) (.pw (.v 0) 3)) (.mul (.mul (.c (-6)) (.pw (.v 0) 2)) (.v 1))) (.add (.mul (.mul (.c (-6)) (.pw (.v 0) 2)) (.v 2)) (.add (.mul (.mul (.c 3) (.pw (.v 0) 2)) (.pw (.v 4) 2)) (.mul (.mul (.c 3) (.pw (.v 0) 2)) (.pw (.v 5) 2))))) (.add (.add (.mul (.mul (.c (-4)) (.v 0)) (.pw (.v 1) 2)) (.add (.mul (.mul (.mul (.c (-10)) (.v 0)) (.v 1)) (.v 2)) (.mul (.mul (.mul (.c 3) (.v 0)) (.v 1)) (.pw (.v 4) 2)))) (.add (.mul (.mul (.mul (.mul (.c (-6)) (.v 0)) (.v 1)) (.v 4)) (.v 5)) (.add (.mul (.mul (.mul (.c 5) (.v 0)) (.v 1)) (.pw (.v 5) 2)) (.mul (.mul (.c (-4)) (.v 0)) (.pw (.v 2) 2)))))) (.add (.add (.add (.mul (.mul (.mul (.c 6) (.v 0)) (.v 2)) (.pw (.v 4) 2)) (.mul (.mul (.mul (.c 4) (.v 0)) (.v 2)) (.pw (.v 5) 2))) (.add (.mul (.mul (.mul (.c 4) (.v 0)) (.v 3)) (.v 4)) (.add (.neg (.mul (.v 0) (.pw (.v 4) 4))) (.mul (.mul (.mul (.c (-3)) (.v 0)) (.pw (.v 4) 2)) (.pw (.v 5) 2))))) (.add (.add (.mul (.mul (.mul (.c 2) (.v 0)) (.v 4)) (.pw (.v 5) 3)) (.add (.mul (.c 2) (.pw (.v 1) 3)) (.mul (.mul (.c 4) (.pw (.v 1) 2)) (.v 2)))) (.add (.neg (.mul (.pw (.v 1) 2) (.pw (.v 4) 2))) (.add (.mul (.mul (.mul (.c (-6)) (.pw (.v 1) 2)) (.v 4)) (.v 5)) (.mul (.pw (.v 1) 2) (.pw (.v 5) 2))))))) (.add (.add (.add (.add (.mul (.mul (.c 4) (.v 1)) (.pw (.v 2) 2)) (.mul (.mul (.mul (.c 2) (.v 1)) (.v 2)) (.pw (.v 4) 2))) (.add (.mul (.mul (.mul (.mul (.c (-6)) (.v 1)) (.v 2)) (.v 4)) (.v 5)) (.add (.mul (.mul (.mul (.c 2) (.v 1)) (.v 2)) (.pw (.v 5) 2)) (.mul (.mul (.mul (.c 4) (.v 1)) (.v 3)) (.v 4))))) (.add (.add (.mul (.mul (.mul (.c (-4)) (.v 1)) (.v 3)) (.v 5)) (.add (.mul (.v 1) (.pw (.v 4) 4)) (.mul (.mul (.mul (.c 4) (.v 1)) (.pw (.v 4) 3)) (.v 5)))) (.add (.neg (.mul (.mul (.v 1) (.pw (.v 4) 2)) (.pw (.v 5) 2))) (.add (.mul (.mul (.mul (.c 4) (.v 1)) (.v 4)) (.pw (.v 5) 3)) (.mul (.mul (.c (-2)) (.v 1)) (.pw (.v 5) 4)))))) (.add (.add (.add (.mul (.c 4) (.pw (.v 2) 3)) (.add (.mul (.mul (.c 2) (.pw (.v 2) 2)) (.pw (.v 4) 2)) (.mul (.mul (.c (-6)) (.pw (.v 2) 2)) (.pw (.v 5) 2)))) (.add (.mul (.mul (.mul (.c 4) (.v 2)) (.v 3)) (.v 4)) (.add (.mul (.mul (.mul (.c (-8)) (.v 2)) (.v 3)) (.v 5)) (.mul (.mul (.mul (.c 2) (.v 2)) (.pw (.v 4) 3)) (.v 5))))) (.add (.add (.mul (.mul (.mul (.c (-2)) (.v 2)) (.pw (.v 4) 2)) (.pw (.v 5) 2)) (.add (.mul (.mul (.c 2) (.v 2)) (.pw (.v 5) 4)) (.mul (.mul (.c (-2)) (.v 3)) (.pw (.v 4) 3)))) (.add (.mul (.mul (.mul (.c (-2)) (.v 3)) (.v 4)) (.pw (.v 5) 2)) (.add (.mul (.mul (.c 4) (.v 3)) (.pw (.v 5) 3)) (.mul (.mul (.c (-2)) (.pw (.v 4) 3)) (.pw (.v 5) 3)))))))),.sub (.add (.add (.mul (.v 4) (.v 3)) (.mul (.v 4) (.v 3))) (.mul (.mul (.v 4) (.v 4)) (.sub (.v 0) (.v 1)))) (.add (.add (.mul (.v 0) (.v 0)) (.mul (.v 0) (.v 1))) (.mul (.v 1) (.v 1)))),
  ((.add (.add (.add (.add (.add (.mul (.mul (.mul (.c 6) (.v 0)) (.v 1)) (.v 2)) (.mul (.mul (.mul (.mul (.c 6) (.v 0)) (.v 1)) (.v 4)) (.v 5))) (.add (.mul (.mul (.c 6) (.v 0)) (.pw (.v 2) 2)) (.mul (.mul (.mul (.c (-6)) (.v 0)) (.v 2)) (.pw (.v 5) 2)))) (.add (.add (.mul (.mul (.mul (.c (-4)) (.v 0)) (.v 3)) (.v 5)) (.mul (.mul (.mul (.c (-2)) (.v 0)) (.v 4)) (.pw (.v 5) 3))) (.add (.mul (.c (-2)) (.pw (.v 1) 3)) (.mul (.mul (.c (-3)) (.pw (.v 1) 2)) (.pw (.v 4) 2))))) (.add (.add (.add (.mul (.mul (.mul (.c 6) (.pw (.v 1) 2)) (.v 4)) (.v 5)) (.mul (.mul (.c 3) (.pw (.v 1) 2)) (.pw (.v 5) 2))) (.add (.mul (.mul (.c 6) (.v 1)) (.pw (.v 2) 2)) (.mul (.mul (.mul (.c (-9)) (.v 1)) (.v 2)) (.pw (.v 4) 2)))) (.add (.add (.mul (.mul (.mul (.mul (.c 6) (.v 1)) (.v 2)) (.v 4)) (.v 5)) (.mul (.mul (.mul (.c (-3)) (.v 1)) (.v 2)) (.pw (.v 5) 2))) (.add (.mul (.mul (.mul (.c 4) (.v 1)) (.v 3)) (.v 4)) (.mul (.mul (.mul (.c (-4)) (.v 1)) (.v 3)) (.v 5)))))) (.add (.add (.add (.add (.mul (.mul (.mul (.c (-4)) (.v 1)) (.pw (.v 4) 3)) (.v 5)) (.mul (.mul (.mul (.c 3) (.v 1)) (.pw (.v 4) 2)) (.pw (.v 5) 2))) (.add (.mul (.mul (.mul (.c (-4)) (.v 1)) (.v 4)) (.pw (.v 5) 3)) (.neg (.mul (.v 1) (.pw (.v 5) 4))))) (.add (.add (.mul (.c 2) (.pw (.v 2) 3)) (.mul (.mul (.c (-3)) (.pw (.v 2) 2)) (.pw (.v 4) 2))) (.add (.mul (.mul (.c (-3)) (.pw (.v 2) 2)) (.pw (.v 5) 2)) (.mul (.mul (.mul (.c 8) (.v 2)) (.v 3)) (.v 4))))) (.add (.add (.add (.mul (.mul (.mul (.c (-4)) (.v 2)) (.v 3)) (.v 5)) (.mul (.mul (.mul (.c (-2)) (.v 2)) (.pw (.v 4) 3)) (.v 5))) (.add (.mul (.mul (.mul (.c 3) (.v 2)) (.pw (.v 4) 2)) (.pw (.v 5) 2)) (.mul (.v 2) (.pw (.v 5) 4)))) (.add (.add (.mul (.mul (.mul (.c 2) (.v 3)) (.pw (.v 4) 2)) (.v 5)) (.mul (.mul (.mul (.c (-4)) (.v 3)) (.v 4)) (.pw (.v 5) 2))) (.add (.mul (.mul (.c 2) (.v 3)) (.pw (.v 5) 3)) (.mul (.mul (.c 2) (.pw (.v 4) 3)) (.pw (.v 5) 3))))))),.sub (.add (.add (.mul (.v 5) (.v 3)) (.mul (.v 5) (.v 3))) (.mul (.mul (.v 5) (.v 5)) (.sub (.v 2) (.v 1)))) (.add (.add (.mul (.v 2) (.v 2)) (.mul (.v 2) (.v 1))) (.mul (.v 1) (.v 1)))),
  ((.add (.add (.add (.add (.add (.add (.mul (.pw (.v 0) 3) (.v 4)) (.neg (.mul (.pw (.v 0) 3) (.v 6)))) (.add (.mul (.mul (.mul (.c 4) (.pw (.v 0) 2)) (.v 1)) (.v 4)) (.mul (.mul (.pw (.v 0) 2) (.v 1)) (.v 5)))) (.add (.add (.mul (.mul (.mul (.c (-3)) (.pw (.v 0) 2)) (.v 1)) (.v 6)) (.mul (.mul (.mul (.c 2) (.pw (.v 0) 2)) (.v 2)) (.v 4))) (.add (.neg (.mul (.mul (.pw (.v 0) 2) (.v 2)) (.v 5))) (.add (.mul (.mul (.mul (.c (-3)) (.pw (.v 0) 2)) (.v 2)) (.v 6)) (.mul (.mul (.c (-2)) (.pw (.v 0) 2)) (.v 3)))))) (.add (.add (.add (.neg (.mul (.pw (.v 0) 2) (.pw (.v 4) 3))) (.mul (.mul (.pw (.v 0) 2) (.pw (.v 4) 2)) (.v 6))) (.add (.mul (.mul (.mul (.c (-2)) (.pw (.v 0) 2)) (.v 4)) (.pw (.v 5) 2)) (.add (.mul (.mul (.mul (.c 2) (.pw (.v 0) 2)) (.pw (.v 5) 2)) (.v 6)) (.mul (.mul (.mul (.c 5) (.v 0)) (.pw (.v 1) 2)) (.v 4))))) (.add (.add (.mul (.mul (.mul (.c 2) (.v 0)) (.pw (.v 1) 2)) (.v 5)) (.mul (.mul (.mul (.c (-3)) (.v 0)) (.pw (.v 1) 2)) (.v 6))) (.add (.mul (.mul (.mul (.mul (.c 6) (.v 0)) (.v 1)) (.v 2)) (.v 4)) (.add (.mul (.mul (.mul (.mul (.c (-6)) (.v 0)) (.v 1)) (.v 2)) (.v 6)) (.mul (.mul (.mul (.c (-4)) (.v 0)) (.v 1)) (.v 3))))))) (.add (.add (.add (.add (.mul (.mul (.mul (.c (-2)) (.v 0)) (.v 1)) (.pw (.v 4) 3)) (.mul (.mul (.mul (.mul (.c 2) (.v 0)) (.v 1)) (.pw (.v 4) 2)) (.v 6))) (.add (.mul (.mul (.mul (.mul (.c (-6)) (.v 0)) (.v 1)) (.v 4)) (.pw (.v 5) 2)) (.add (.mul (.mul (.mul (.c (-2)) (.v 0)) (.v 1)) (.pw (.v 5) 3)) (.mul (.mul (.mul (.mul (.c 4) (.v 0)) (.v 1)) (.pw (.v 5) 2)) (.v 6))))) (.add (.add (.mul (.mul (.v 0) (.pw (.v 2) 2)) (.v 4)) (.mul (.mul (.mul (.c (-2)) (.v 0)) (.pw (.v 2) 2)) (.v 5))) (.add (.mul (.mul (.mul (.c (-3)) (.v 0)) (.pw (.v 2) 2)) (.v 6)) (.add (.mul (.mul (.mul (.c (-4)) (.v 0)) (.v 2)) (.v 3)) (.mul (.mul (.mul (.c (-2)) (.v 0)) (.v 2)) (.pw (.v 4) 3)))))) (.add (.add (.add (.mul (.mul (.mul (.mul (.c 2) (.v 0)) (.v 2)) (.pw (.v 4) 2)) (.v 6)) (.mul (.mul (.mul (.mul (.c (-2)) (.v 0)) (.v 2)) (.v 4)) (.pw (.v 5) 2))) (.add (.mul (.mul (.mul (.c 2) (.v 0)) (.v 2)) (.pw (.v 5) 3)) (.add (.mul (.mul (.mul (.mul (.c 4) (.v 0)) (.v 2)) (.pw (.v 5) 2)) (.v 6)) (.mul (.mul (.mul (.c 4) (.v 0)) (.v 3)) (.pw (.v 5) 2))))) (.add (.add (.mul (.mul (.mul (.c 2) (.v 0)) (.pw (.v 4) 3)) (.pw (.v 5) 2)) (.mul (.mul (.mul (.mul (.c (-2)) (.v 0)) (.pw (.v 4) 2)) (.pw (.v 5) 2)) (.v 6))) (.add (.mul (.mul (.v 0) (.v 4)) (.pw (.v 5) 4)) (.add (.neg (.mul (.mul (.v 0) (.pw (.v 5) 4)) (.v 6))) (.mul (.mul (.c 2) (.pw (.v 1) 3)) (.v 4)))))))) (.add (.add (.add (.add (.add (.mul (.pw (.v 1) 3) (.v 5)) (.neg (.mul (.pw (.v 1) 3) (.v 6)))) (.add (.mul (.mul (.mul (.c 4) (.pw (.v 1) 2)) (.v 2)) (.v 4)) (.add (.mul (.mul (.pw (.v 1) 2) (.v 2)) (.v 5)) (.mul (.mul (.mul (.c (-3)) (.pw (.v 1) 2)) (.v 2)) (.v 6))))) (.add (.add (.mul (.mul (.c (-2)) (.pw (.v 1) 2)) (.v 3)) (.neg (.mul (.pw (.v 1) 2) (.pw (.v 4) 3)))) (.add (.mul (.mul (.pw (.v 1) 2) (.pw (.v 4) 2)) (.v 6)) (.add (.mul (.mul (.mul (.c (-4)) (.pw (.v 1) 2)) (.v 4)) (.pw (.v 5) 2)) (.mul (.mul (.c (-2)) (.pw (.v 1) 2)) (.pw (.v 5) 3)))))) (.add (.add (.add (.mul (.mul (.mul (.c 2) (.pw (.v 1) 2)) (.pw (.v 5) 2)) (.v 6)) (.mul (.mul (.mul (.c 2) (.v 1)) (.pw (.v 2) 2)) (.v 4))) (.add (.neg (.mul (.mul (.v 1) (.pw (.v 2) 2)) (.v 5))) (.add (.mul (.mul (.mul (.c (-3)) (.v 1)) (.pw (.v 2) 2)) (.v 6)) (.mul (.mul (.mul (.c (-4)) (.v 1)) (.v 2)) (.v 3))))) (.add (.add (.mul (.mul (.mul (.c (-2)) (.v 1)) (.v 2)) (.pw (.v 4) 3)) (.mul (.mul (.mul (.mul (.c 2) (.v 1)) (.v 2)) (.pw (.v 4) 2)) (.v 6))) (.add (.mul (.mul (.mul (.mul (.c (-4)) (.v 1)) (.v 2)) (.v 4)) (.pw (.v 5) 2)) (.add (.mul (.mul (.mul (.mul (.c 4) (.v 1)) (.v 2)) (.pw (.v 5) 2)) (.v 6)) (.mul (.mul (.mul (.c 4) (.v 1)) (.v 3)) (.pw (.v 5) 2))))))) (.add (.add (.add (.add (.mul (.mul (.mul (.c 2) (.v 1)) (.pw (.v 4) 3)) (.pw (.v 5) 2)) (.mul (.mul (.mul (.mul (.c (-2)) (.v 1)) (.pw (.v 4) 2)) (.pw (.v 5) 2)) (.v 6))) (.add (.mul (.mul (.mul (.c 2) (.v 1)) (.v 4)) (.pw (.v 5) 4)) (.add (.mul (.v 1) (.pw (.v 5) 5)) (.neg (.mul (.mul (.v 1) (.pw (.v 5) 4)) (.v 6)))))) (.add (.add (.neg (.mul (.pw (.v 2) 3) (.v 5))) (.neg (.mul (.pw (.v 2) 3) (.v 6)))) (.add (.mul (.mul (.c (-2)) (.pw (.v 2) 2)) (.v 3)) (.add (.neg (.mul (.pw (.v 2) 2) (.pw (.v 4) 3))) (.mul (.mul (.pw (.v 2) 2) (.pw (.v 4) 2)) (.v 6)))))) (.add (.add (.add (.mul (.mul (.c 2) (.pw (.v 2) 2)) (.pw (.v 5) 3)) (.mul (.mul (.mul (.c 2) (.pw (.v 2) 2)) (.pw (.v 5) 2)) (.v 6))) (.add (.mul (.mul (.mul (.c 4) (.v 2)) (.v 3)) (.pw (.v 5) 2)) (.add (.mul (.mul (.mul (.c 2) (.v 2)) (.pw (.v 4) 3)) (.pw (.v 5) 2)) (.mul (.mul (.mul (.mul (.c (-2)) (.v 2)) (.pw (.v 4) 2)) (.pw (.v 5) 2)) (.v 6))))) (.add (.add (.neg (.mul (.v 2) (.pw (.v 5) 5))) (.neg (.mul (.mul (.v 2) (.pw (.v 5) 4)) (.v 6)))) (.add (.mul (.mul (.c (-2)) (.v 3)) (.pw (.v 5) 4)) (.add (.neg (.mul (.pw (.v 4) 3) (.pw (.v 5) 4))) (.mul (.mul (.pw (.v 4) 2) (.pw (.v 5) 4)) (.v 6))))))))),.sub (.mul (.v 6) (.sub (.sub (.sub (.mul (.v 4) (.v 4)) (.v 0)) (.v 1)) (.v 2))) (.sub (.sub (.mul (.v 4) (.sub (.v 1) (.sub (.sub (.mul (.v 4) (.v 4)) (.v 0)) (.v 1)))) (.v 3)) (.add (.v 3) (.mul (.v 5) (.sub (.v 2) (.v 1)))))),
  ((.add (.add (.add (.add (.add (.add (.mul (.pw (.v 0) 3) (.v 4)) (.mul (.pw (.v 0) 3) (.v 7))) (.add (.mul (.mul (.pw (.v 0) 2) (.v 1)) (.v 4)) (.mul (.mul (.mul (.c (-2)) (.pw (.v 0) 2)) (.v 1)) (.v 5)))) (.add (.add (.mul (.mul (.mul (.c 3) (.pw (.v 0) 2)) (.v 1)) (.v 7)) (.mul (.mul (.mul (.c 2) (.pw (.v 0) 2)) (.v 2)) (.v 4))) (.add (.neg (.mul (.mul (.pw (.v 0) 2) (.v 2)) (.v 5))) (.add (.mul (.mul (.mul (.c 3) (.pw (.v 0) 2)) (.v 2)) (.v 7)) (.mul (.mul (.c 2) (.pw (.v 0) 2)) (.v 3)))))) (.add (.add (.add (.mul (.mul (.c (-2)) (.pw (.v 0) 2)) (.pw (.v 4) 3)) (.mul (.mul (.mul (.c (-2)) (.pw (.v 0) 2)) (.pw (.v 4) 2)) (.v 7))) (.add (.mul (.pw (.v 0) 2) (.pw (.v 5) 3)) (.add (.neg (.mul (.mul (.pw (.v 0) 2) (.pw (.v 5) 2)) (.v 7))) (.neg (.mul (.mul (.v 0) (.pw (.v 1) 2)) (.v 4)))))) (.add (.add (.mul (.mul (.mul (.c (-4)) (.v 0)) (.pw (.v 1) 2)) (.v 5)) (.mul (.mul (.mul (.c 3) (.v 0)) (.pw (.v 1) 2)) (.v 7))) (.add (.mul (.mul (.mul (.mul (.c (-6)) (.v 0)) (.v 1)) (.v 2)) (.v 5)) (.add (.mul (.mul (.mul (.mul (.c 6) (.v 0)) (.v 1)) (.v 2)) (.v 7)) (.mul (.mul (.mul (.c 4) (.v 0)) (.v 1)) (.v 3))))))) (.add (.add (.add (.add (.mul (.mul (.mul (.mul (.c 4) (.v 0)) (.v 1)) (.pw (.v 4) 2)) (.v 5)) (.mul (.mul (.mul (.mul (.c (-4)) (.v 0)) (.v 1)) (.pw (.v 4) 2)) (.v 7))) (.add (.mul (.mul (.mul (.c 2) (.v 0)) (.v 1)) (.pw (.v 5) 3)) (.add (.mul (.mul (.mul (.mul (.c (-2)) (.v 0)) (.v 1)) (.pw (.v 5) 2)) (.v 7)) (.mul (.mul (.v 0) (.pw (.v 2) 2)) (.v 4))))) (.add (.add (.mul (.mul (.mul (.c (-2)) (.v 0)) (.pw (.v 2) 2)) (.v 5)) (.mul (.mul (.mul (.c 3) (.v 0)) (.pw (.v 2) 2)) (.v 7))) (.add (.mul (.mul (.mul (.c 4) (.v 0)) (.v 2)) (.v 3)) (.add (.mul (.mul (.mul (.c (-2)) (.v 0)) (.v 2)) (.pw (.v 4) 3)) (.mul (.mul (.mul (.mul (.c 2) (.v 0)) (.v 2)) (.pw (.v 4) 2)) (.v 5)))))) (.add (.add (.add (.mul (.mul (.mul (.mul (.c (-4)) (.v 0)) (.v 2)) (.pw (.v 4) 2)) (.v 7)) (.mul (.mul (.mul (.c 2) (.v 0)) (.v 2)) (.pw (.v 5) 3))) (.add (.mul (.mul (.mul (.mul (.c (-2)) (.v 0)) (.v 2)) (.pw (.v 5) 2)) (.v 7)) (.add (.mul (.mul (.mul (.c (-4)) (.v 0)) (.v 3)) (.pw (.v 4) 2)) (.mul (.v 0) (.pw (.v 4) 5))))) (.add (.add (.mul (.mul (.v 0) (.pw (.v 4) 4)) (.v 7)) (.mul (.mul (.mul (.c (-2)) (.v 0)) (.pw (.v 4) 2)) (.pw (.v 5) 3))) (.add (.mul (.mul (.mul (.mul (.c 2) (.v 0)) (.pw (.v 4) 2)) (.pw (.v 5) 2)) (.v 7)) (.add (.neg (.mul (.pw (.v 1) 3) (.v 4))) (.mul (.mul (.c (-2)) (.pw (.v 1) 3)) (.v 5)))))))) (.add (.add (.add (.add (.add (.mul (.pw (.v 1) 3) (.v 7)) (.mul (.mul (.mul (.c (-2)) (.pw (.v 1) 2)) (.v 2)) (.v 4))) (.add (.mul (.mul (.mul (.c (-5)) (.pw (.v 1) 2)) (.v 2)) (.v 5)) (.add (.mul (.mul (.mul (.c 3) (.pw (.v 1) 2)) (.v 2)) (.v 7)) (.mul (.mul (.c 2) (.pw (.v 1) 2)) (.v 3))))) (.add (.add (.mul (.mul (.c 2) (.pw (.v 1) 2)) (.pw (.v 4) 3)) (.mul (.mul (.mul (.c 4) (.pw (.v 1) 2)) (.pw (.v 4) 2)) (.v 5))) (.add (.mul (.mul (.mul (.c (-2)) (.pw (.v 1) 2)) (.pw (.v 4) 2)) (.v 7)) (.add (.mul (.pw (.v 1) 2) (.pw (.v 5) 3)) (.neg (.mul (.mul (.pw (.v 1) 2) (.pw (.v 5) 2)) (.v 7))))))) (.add (.add (.add (.neg (.mul (.mul (.v 1) (.pw (.v 2) 2)) (.v 4))) (.mul (.mul (.mul (.c (-4)) (.v 1)) (.pw (.v 2) 2)) (.v 5))) (.add (.mul (.mul (.mul (.c 3) (.v 1)) (.pw (.v 2) 2)) (.v 7)) (.add (.mul (.mul (.mul (.c 4) (.v 1)) (.v 2)) (.v 3)) (.mul (.mul (.mul (.c 2) (.v 1)) (.v 2)) (.pw (.v 4) 3))))) (.add (.add (.mul (.mul (.mul (.mul (.c 6) (.v 1)) (.v 2)) (.pw (.v 4) 2)) (.v 5)) (.mul (.mul (.mul (.mul (.c (-4)) (.v 1)) (.v 2)) (.pw (.v 4) 2)) (.v 7))) (.add (.mul (.mul (.mul (.c 2) (.v 1)) (.v 2)) (.pw (.v 5) 3)) (.add (.mul (.mul (.mul (.mul (.c (-2)) (.v 1)) (.v 2)) (.pw (.v 5) 2)) (.v 7)) (.mul (.mul (.mul (.c (-4)) (.v 1)) (.v 3)) (.pw (.v 4) 2))))))) (.add (.add (.add (.add (.neg (.mul (.v 1) (.pw (.v 4) 5))) (.mul (.mul (.mul (.c (-2)) (.v 1)) (.pw (.v 4) 4)) (.v 5))) (.add (.mul (.mul (.v 1) (.pw (.v 4) 4)) (.v 7)) (.add (.mul (.mul (.mul (.c (-2)) (.v 1)) (.pw (.v 4) 2)) (.pw (.v 5) 3)) (.mul (.mul (.mul (.mul (.c 2) (.v 1)) (.pw (.v 4) 2)) (.pw (.v 5) 2)) (.v 7))))) (.add (.add (.neg (.mul (.pw (.v 2) 3) (.v 5))) (.mul (.pw (.v 2) 3) (.v 7))) (.add (.mul (.mul (.c 2) (.pw (.v 2) 2)) (.v 3)) (.add (.mul (.mul (.mul (.c 2) (.pw (.v 2) 2)) (.pw (.v 4) 2)) (.v 5)) (.mul (.mul (.mul (.c (-2)) (.pw (.v 2) 2)) (.pw (.v 4) 2)) (.v 7)))))) (.add (.add (.add (.mul (.pw (.v 2) 2) (.pw (.v 5) 3)) (.neg (.mul (.mul (.pw (.v 2) 2) (.pw (.v 5) 2)) (.v 7)))) (.add (.mul (.mul (.mul (.c (-4)) (.v 2)) (.v 3)) (.pw (.v 4) 2)) (.add (.neg (.mul (.mul (.v 2) (.pw (.v 4) 4)) (.v 5))) (.mul (.mul (.v 2) (.pw (.v 4) 4)) (.v 7))))) (.add (.add (.mul (.mul (.mul (.c (-2)) (.v 2)) (.pw (.v 4) 2)) (.pw (.v 5) 3)) (.mul (.mul (.mul (.mul (.c 2) (.v 2)) (.pw (.v 4) 2)) (.pw (.v 5) 2)) (.v 7))) (.add (.mul (.mul (.c 2) (.v 3)) (.pw (.v 4) 4)) (.add (.mul (.pw (.v 4) 4) (.pw (.v 5) 3)) (.neg (.mul (.mul (.pw (.v 4) 4) (.pw (.v 5) 2)) (.v 7)))))))))),.sub (.mul (.v 7) (.sub (.sub (.sub (.mul (.v 5) (.v 5)) (.v 1)) (.v 2)) (.v 0))) (.sub (.sub (.mul (.v 5) (.sub (.v 1) (.sub (.sub (.mul (.v 5) (.v 5)) (.v 1)) (.v 2)))) (.v 3)) (.add (.v 3) (.mul (.v 4) (.sub (.v 0) (.v 1))))))] ⟨AT.2 r1,AT.2 r2,AT.2 hs,AT.2 ht,trivial⟩ (by kernel_rfl))
theorem AGw {F:Type} [CR F] (x1 x2 x3 y2 l m s t:F) (r1:(((l*y2)+(l*y2))+((l*l)*(x1-x2)))=(((x1*x1)+(x1*x2))+(x2*x2))) (r2:(((m*y2)+(m*y2))+((m*m)*(x3-x2)))=(((x3*x3)+(x3*x2))+(x2*x2))) (hs:(s*((((l*l)-x1)-x2)-x3))=(((l*(x2-(((l*l)-x1)-x2)))-y2)-(y2+(m*(x3-x2))))) (ht:(t*((((m*m)-x2)-x3)-x1))=(((m*(x2-(((m*m)-x2)-x3)))-y2)-(y2+(l*(x1-x2))))):((((((((l*l)-x1)-x2)-x3)*((((l*l)-x1)-x2)-x3))*((((l*l)-x1)-x2)-x3))*((((m*m)-x2)-x3)-x1))*((s*(x3-(((s*s)-(((l*l)-x1)-x2))-x3)))-(y2+(m*(x3-x2)))))=((((((((l*l)-x1)-x2)-x3)*((((l*l)-x1)-x2)-x3))*((((l*l)-x1)-x2)-x3))*((((m*m)-x2)-x3)-x1))*((t*(x1-(((s*s)-(((l*l)-x1)-x2))-x3)))-(y2+(l*(x1-x2))))) :=
 AT.1 (BG [x1,x2,x3,y2,l,m,s,t] (.sub (.mul (.mul (.mul (.mul (.sub (.sub (.sub (.mul (.v 4) (.v 4)) (.v 0)) (.v 1)) (.v 2)) (.sub (.sub (.sub (.mul (.v 4) (.v 4)) (.v 0)) (.v 1)) (.v 2))) (.sub (.sub (.sub (.mul (.v 4) (.v 4)) (.v 0)) (.v 1)) (.v 2))) (.sub (.sub (.sub (.mul (.v 5) (.v 5)) (.v 1)) (.v 2)) (.v 0))) (.sub (.mul (.v 6) (.sub (.v 2) (.sub (.sub (.mul (.v 6) (.v 6)) (.sub (.sub (.mul (.v 4) (.v 4)) (.v 0)) (.v 1))) (.v 2)))) (.add (.v 3) (.mul (.v 5) (.sub (.v 2) (.v 1)))))) (.mul (.mul (.mul (.mul (.sub (.sub (.sub (.mul (.v 4) (.v 4)) (.v 0)) (.v 1)) (.v 2)) (.sub (.sub (.sub (.mul (.v 4) (.v 4)) (.v 0)) (.v 1)) (.v 2))) (.sub (.sub (.sub (.mul (.v 4) (.v 4)) (.v 0)) (.v 1)) (.v 2))) (.sub (.sub (.sub (.mul (.v 5) (.v 5)) (.v 1)) (.v 2)) (.v 0))) (.sub (.mul (.v 7) (.sub (.v 0) (.sub (.sub (.mul (.v 6) (.v 6)) (.sub (.sub (.mul (.v 4) (.v 4)) (.v 0)) (.v 1))) (.v 2)))) (.add (.v 3) (.mul (.v 4) (.sub (.v 0) (.v 1))))))) [((.add (.add (.add (.add (.add (.mul (.mul (.c (-2)) (.pw (.v 0) 3)) (.v 4)) (.add (.mul (.mul (.mul (.c (-8)) (.pw (.v 0) 2)) (.v 1)) (.v 4)) (.mul (.mul (.mul (.c (-2)) (.pw (.v 0) 2)) (.v 1)) (.v 5)))) (.add (.add (.mul (.mul (.mul (.c (-4)) (.pw (.v 0) 2)) (.v 2)) (.v 4)) (.mul (.mul (.mul (.c 2) (.pw (.v 0) 2)) (.v 2)) (.v 5))) (.add (.mul (.mul (.c 2) (.pw (.v 0) 2)) (.v 3)) (.mul (.mul (.c 4) (.pw (.v 0) 2)) (.pw (.v 4) 3))))) (.add (.add (.add (.mul (.mul (.mul (.c 2) (.pw (.v 0) 2)) (.v 4)) (.pw (.v 5) 2)) (.mul (.mul (.mul (.c (-8)) (.v 0)) (.pw (.v 1) 2)) (.v 4))) (.add (.mul (.mul (.mul (.c (-4)) (.v 0)) (.pw (.v 1) 2)) (.v 5)) (.mul (.mul (.mul (.mul (.c (-10)) (.v 0)) (.v 1)) (.v 2)) (.v 4)))) (.add (.add (.mul (.mul (.mul (.c 4) (.v 0)) (.v 1)) (.v 3)) (.mul (.mul (.mul (.c 9) (.v 0)) (.v 1)) (.pw (.v 4) 3))) (.add (.neg (.mul (.mul (.mul (.v 0) (.v 1)) (.pw (.v 4) 2)) (.v 5))) (.mul (.mul (.mul (.mul (.c 5) (.v 0)) (.v 1)) (.v 4)) (.pw (.v 5) 2)))))) (.add (.add (.add (.add (.mul (.mul (.v 0) (.v 1)) (.pw (.v 5) 3)) (.mul (.mul (.mul (.c 4) (.v 0)) (.pw (.v 2) 2)) (.v 5))) (.add (.mul (.mul (.mul (.c 4) (.v 0)) (.v 2)) (.v 3)) (.mul (.mul (.mul (.c 7) (.v 0)) (.v 2)) (.pw (.v 4) 3)))) (.add (.add (.mul (.mul (.mul (.v 0) (.v 2)) (.pw (.v 4) 2)) (.v 5)) (.mul (.mul (.mul (.mul (.c 3) (.v 0)) (.v 2)) (.v 4)) (.pw (.v 5) 2))) (.add (.neg (.mul (.mul (.v 0) (.v 2)) (.pw (.v 5) 3))) (.mul (.mul (.mul (.c 2) (.v 0)) (.v 3)) (.pw (.v 4) 2))))) (.add (.add (.add (.mul (.mul (.mul (.c (-2)) (.v 0)) (.v 3)) (.pw (.v 5) 2)) (.mul (.mul (.c (-2)) (.v 0)) (.pw (.v 4) 5))) (.add (.mul (.mul (.mul (.c (-4)) (.v 0)) (.pw (.v 4) 3)) (.pw (.v 5) 2)) (.mul (.mul (.c 2) (.pw (.v 1) 3)) (.v 4)))) (.add (.add (.mul (.mul (.mul (.c 2) (.pw (.v 1) 2)) (.v 2)) (.v 4)) (.mul (.mul (.mul (.c (-2)) (.pw (.v 1) 2)) (.v 2)) (.v 5))) (.add (.mul (.mul (.c 2) (.pw (.v 1) 2)) (.pw (.v 4) 3)) (.mul (.mul (.mul (.c (-4)) (.pw (.v 1) 2)) (.pw (.v 4) 2)) (.v 5))))))) (.add (.add (.add (.add (.mul (.mul (.mul (.c 2) (.pw (.v 1) 2)) (.v 4)) (.pw (.v 5) 2)) (.add (.mul (.mul (.c 2) (.pw (.v 1) 2)) (.pw (.v 5) 3)) (.mul (.mul (.mul (.c 6) (.v 1)) (.pw (.v 2) 2)) (.v 4)))) (.add (.add (.mul (.mul (.mul (.c 2) (.v 1)) (.pw (.v 2) 2)) (.v 5)) (.mul (.mul (.mul (.c 2) (.v 1)) (.v 2)) (.v 3))) (.add (.mul (.mul (.mul (.c 8) (.v 1)) (.v 2)) (.pw (.v 4) 3)) (.mul (.mul (.mul (.mul (.c 6) (.v 1)) (.v 2)) (.pw (.v 4) 2)) (.v 5))))) (.add (.add (.add (.mul (.mul (.mul (.mul (.c 6) (.v 1)) (.v 2)) (.v 4)) (.pw (.v 5) 2)) (.mul (.mul (.mul (.c (-2)) (.v 1)) (.v 2)) (.pw (.v 5) 3))) (.add (.mul (.mul (.mul (.c 6) (.v 1)) (.v 3)) (.pw (.v 4) 2)) (.mul (.mul (.mul (.c (-4)) (.v 1)) (.v 3)) (.pw (.v 5) 2)))) (.add (.add (.neg (.mul (.v 1) (.pw (.v 4) 5))) (.mul (.mul (.mul (.c 3) (.v 1)) (.pw (.v 4) 4)) (.v 5))) (.add (.mul (.mul (.mul (.c (-5)) (.v 1)) (.pw (.v 4) 3)) (.pw (.v 5) 2)) (.neg (.mul (.mul (.v 1) (.pw (.v 4) 2)) (.pw (.v 5) 3))))))) (.add (.add (.add (.add (.mul (.mul (.mul (.c (-2)) (.v 1)) (.v 4)) (.pw (.v 5) 4)) (.mul (.mul (.c 4) (.pw (.v 2) 3)) (.v 4))) (.add (.mul (.mul (.mul (.c (-2)) (.pw (.v 2) 2)) (.pw (.v 4) 2)) (.v 5)) (.mul (.mul (.mul (.c (-6)) (.pw (.v 2) 2)) (.v 4)) (.pw (.v 5) 2)))) (.add (.add (.mul (.mul (.mul (.c (-2)) (.v 2)) (.v 3)) (.pw (.v 4) 2)) (.mul (.mul (.mul (.mul (.c (-12)) (.v 2)) (.v 3)) (.v 4)) (.v 5))) (.add (.mul (.mul (.c (-3)) (.v 2)) (.pw (.v 4) 5)) (.mul (.mul (.mul (.c (-3)) (.v 2)) (.pw (.v 4) 4)) (.v 5))))) (.add (.add (.add (.mul (.mul (.mul (.c (-3)) (.v 2)) (.pw (.v 4) 3)) (.pw (.v 5) 2)) (.mul (.mul (.v 2) (.pw (.v 4) 2)) (.pw (.v 5) 3))) (.add (.mul (.mul (.mul (.c 2) (.v 2)) (.v 4)) (.pw (.v 5) 4)) (.mul (.mul (.c (-4)) (.pw (.v 3) 2)) (.v 4)))) (.add (.add (.mul (.mul (.c (-4)) (.v 3)) (.pw (.v 4) 4)) (.mul (.mul (.mul (.c 2) (.v 3)) (.pw (.v 4) 2)) (.pw (.v 5) 2))) (.add (.mul (.mul (.mul (.c 4) (.v 3)) (.v 4)) (.pw (.v 5) 3)) (.mul (.mul (.c 2) (.pw (.v 4) 5)) (.pw (.v 5) 2)))))))),.sub (.add (.add (.mul (.v 4) (.v 3)) (.mul (.v 4) (.v 3))) (.mul (.mul (.v 4) (.v 4)) (.sub (.v 0) (.v 1)))) (.add (.add (.mul (.v 0) (.v 0)) (.mul (.v 0) (.v 1))) (.mul (.v 1) (.v 1)))),
  ((.add (.add (.add (.add (.add (.mul (.mul (.mul (.c 2) (.v 0)) (.pw (.v 1) 2)) (.v 4)) (.add (.mul (.mul (.mul (.c 2) (.v 0)) (.pw (.v 1) 2)) (.v 5)) (.mul (.mul (.mul (.mul (.c 8) (.v 0)) (.v 1)) (.v 2)) (.v 4)))) (.add (.mul (.mul (.mul (.mul (.c 2) (.v 0)) (.v 1)) (.v 2)) (.v 5)) (.add (.mul (.mul (.mul (.c (-2)) (.v 0)) (.v 1)) (.v 3)) (.mul (.mul (.mul (.c (-3)) (.v 0)) (.v 1)) (.pw (.v 4) 3))))) (.add (.add (.mul (.mul (.mul (.mul (.c 3) (.v 0)) (.v 1)) (.pw (.v 4) 2)) (.v 5)) (.add (.neg (.mul (.mul (.mul (.v 0) (.v 1)) (.v 4)) (.pw (.v 5) 2))) (.neg (.mul (.mul (.v 0) (.v 1)) (.pw (.v 5) 3))))) (.add (.add (.mul (.mul (.mul (.c 2) (.v 0)) (.pw (.v 2) 2)) (.v 4)) (.mul (.mul (.mul (.c (-4)) (.v 0)) (.pw (.v 2) 2)) (.v 5))) (.add (.mul (.mul (.mul (.c (-4)) (.v 0)) (.v 2)) (.v 3)) (.mul (.mul (.mul (.c (-3)) (.v 0)) (.v 2)) (.pw (.v 4) 3)))))) (.add (.add (.add (.mul (.mul (.mul (.mul (.c (-3)) (.v 0)) (.v 2)) (.pw (.v 4) 2)) (.v 5)) (.add (.mul (.mul (.mul (.mul (.c (-5)) (.v 0)) (.v 2)) (.v 4)) (.pw (.v 5) 2)) (.mul (.mul (.v 0) (.v 2)) (.pw (.v 5) 3)))) (.add (.add (.mul (.mul (.mul (.mul (.c (-4)) (.v 0)) (.v 3)) (.v 4)) (.v 5)) (.mul (.mul (.mul (.c 2) (.v 0)) (.v 3)) (.pw (.v 5) 2))) (.add (.mul (.mul (.mul (.c 2) (.v 0)) (.pw (.v 4) 3)) (.pw (.v 5) 2)) (.mul (.mul (.c (-2)) (.pw (.v 1) 3)) (.v 4))))) (.add (.add (.mul (.mul (.mul (.c 4) (.pw (.v 1) 2)) (.v 2)) (.v 4)) (.add (.mul (.mul (.mul (.c 4) (.pw (.v 1) 2)) (.v 2)) (.v 5)) (.mul (.mul (.c (-8)) (.pw (.v 1) 2)) (.pw (.v 4) 3)))) (.add (.add (.mul (.mul (.mul (.c 2) (.pw (.v 1) 2)) (.pw (.v 4) 2)) (.v 5)) (.mul (.mul (.mul (.c 4) (.pw (.v 1) 2)) (.v 4)) (.pw (.v 5) 2))) (.add (.mul (.mul (.mul (.c 4) (.v 1)) (.pw (.v 2) 2)) (.v 4)) (.mul (.mul (.mul (.c (-2)) (.v 1)) (.pw (.v 2) 2)) (.v 5))))))) (.add (.add (.add (.add (.mul (.mul (.mul (.c (-4)) (.v 1)) (.v 2)) (.v 3)) (.add (.mul (.mul (.mul (.c (-14)) (.v 1)) (.v 2)) (.pw (.v 4) 3)) (.mul (.mul (.mul (.mul (.c (-4)) (.v 1)) (.v 2)) (.pw (.v 4) 2)) (.v 5)))) (.add (.mul (.mul (.mul (.mul (.c (-10)) (.v 1)) (.v 2)) (.v 4)) (.pw (.v 5) 2)) (.add (.mul (.mul (.mul (.c (-2)) (.v 1)) (.v 2)) (.pw (.v 5) 3)) (.mul (.mul (.mul (.c 8) (.v 1)) (.v 3)) (.pw (.v 4) 2))))) (.add (.add (.mul (.mul (.mul (.mul (.c (-8)) (.v 1)) (.v 3)) (.v 4)) (.v 5)) (.add (.mul (.mul (.mul (.c (-2)) (.v 1)) (.v 3)) (.pw (.v 5) 2)) (.mul (.mul (.c 3) (.v 1)) (.pw (.v 4) 5)))) (.add (.add (.mul (.mul (.mul (.c (-3)) (.v 1)) (.pw (.v 4) 4)) (.v 5)) (.mul (.mul (.mul (.c 5) (.v 1)) (.pw (.v 4) 3)) (.pw (.v 5) 2))) (.add (.mul (.mul (.v 1) (.pw (.v 4) 2)) (.pw (.v 5) 3)) (.mul (.mul (.c (-2)) (.pw (.v 2) 3)) (.v 5)))))) (.add (.add (.add (.mul (.mul (.c (-2)) (.pw (.v 2) 2)) (.v 3)) (.add (.mul (.mul (.c (-2)) (.pw (.v 2) 2)) (.pw (.v 4) 3)) (.mul (.mul (.mul (.c 2) (.pw (.v 2) 2)) (.pw (.v 4) 2)) (.v 5)))) (.add (.add (.mul (.mul (.c 2) (.pw (.v 2) 2)) (.pw (.v 5) 3)) (.mul (.mul (.mul (.c 10) (.v 2)) (.v 3)) (.pw (.v 4) 2))) (.add (.mul (.mul (.mul (.c 6) (.v 2)) (.v 3)) (.pw (.v 5) 2)) (.mul (.mul (.c 3) (.v 2)) (.pw (.v 4) 5))))) (.add (.add (.mul (.mul (.mul (.c 3) (.v 2)) (.pw (.v 4) 4)) (.v 5)) (.add (.mul (.mul (.mul (.c 5) (.v 2)) (.pw (.v 4) 3)) (.pw (.v 5) 2)) (.neg (.mul (.mul (.v 2) (.pw (.v 4) 2)) (.pw (.v 5) 3))))) (.add (.add (.mul (.mul (.c 4) (.pw (.v 3) 2)) (.v 5)) (.mul (.mul (.mul (.c 4) (.v 3)) (.pw (.v 4) 3)) (.v 5))) (.add (.mul (.mul (.mul (.c (-6)) (.v 3)) (.pw (.v 4) 2)) (.pw (.v 5) 2)) (.mul (.mul (.c (-2)) (.pw (.v 4) 5)) (.pw (.v 5) 2)))))))),.sub (.add (.add (.mul (.v 5) (.v 3)) (.mul (.v 5) (.v 3))) (.mul (.mul (.v 5) (.v 5)) (.sub (.v 2) (.v 1)))) (.add (.add (.mul (.v 2) (.v 2)) (.mul (.v 2) (.v 1))) (.mul (.v 1) (.v 1)))),
  ((.add (.add (.add (.add (.add (.add (.add (.pw (.v 0) 4) (.mul (.mul (.c 4) (.pw (.v 0) 3)) (.v 1))) (.add (.mul (.pw (.v 0) 3) (.v 2)) (.add (.neg (.mul (.pw (.v 0) 3) (.pw (.v 4) 2))) (.mul (.mul (.mul (.c (-2)) (.pw (.v 0) 3)) (.v 4)) (.v 6))))) (.add (.add (.neg (.mul (.pw (.v 0) 3) (.pw (.v 5) 2))) (.add (.mul (.pw (.v 0) 3) (.pw (.v 6) 2)) (.mul (.mul (.c 6) (.pw (.v 0) 2)) (.pw (.v 1) 2)))) (.add (.mul (.mul (.mul (.c 3) (.pw (.v 0) 2)) (.v 1)) (.v 2)) (.add (.mul (.mul (.mul (.c (-2)) (.pw (.v 0) 2)) (.v 1)) (.pw (.v 4) 2)) (.mul (.mul (.mul (.pw (.v 0) 2) (.v 1)) (.v 4)) (.v 5)))))) (.add (.add (.add (.mul (.mul (.mul (.mul (.c (-5)) (.pw (.v 0) 2)) (.v 1)) (.v 4)) (.v 6)) (.add (.mul (.mul (.mul (.c (-3)) (.pw (.v 0) 2)) (.v 1)) (.pw (.v 5) 2)) (.mul (.mul (.mul (.pw (.v 0) 2) (.v 1)) (.v 5)) (.v 6)))) (.add (.mul (.mul (.mul (.c 3) (.pw (.v 0) 2)) (.v 1)) (.pw (.v 6) 2)) (.add (.mul (.mul (.c (-3)) (.pw (.v 0) 2)) (.pw (.v 2) 2)) (.neg (.mul (.mul (.pw (.v 0) 2) (.v 2)) (.pw (.v 4) 2)))))) (.add (.add (.mul (.mul (.mul (.mul (.c (-4)) (.pw (.v 0) 2)) (.v 2)) (.v 4)) (.v 5)) (.add (.mul (.mul (.mul (.mul (.c (-4)) (.pw (.v 0) 2)) (.v 2)) (.v 4)) (.v 6)) (.mul (.mul (.mul (.mul (.c 2) (.pw (.v 0) 2)) (.v 2)) (.v 5)) (.v 6)))) (.add (.mul (.mul (.mul (.c 3) (.pw (.v 0) 2)) (.v 2)) (.pw (.v 6) 2)) (.add (.mul (.mul (.mul (.c (-4)) (.pw (.v 0) 2)) (.v 3)) (.v 4)) (.neg (.mul (.pw (.v 0) 2) (.pw (.v 4) 4)))))))) (.add (.add (.add (.add (.mul (.mul (.mul (.c 4) (.pw (.v 0) 2)) (.pw (.v 4) 3)) (.v 6)) (.mul (.mul (.mul (.c 2) (.pw (.v 0) 2)) (.pw (.v 4) 2)) (.pw (.v 5) 2))) (.add (.mul (.mul (.mul (.c (-2)) (.pw (.v 0) 2)) (.pw (.v 4) 2)) (.pw (.v 6) 2)) (.add (.mul (.mul (.pw (.v 0) 2) (.v 4)) (.pw (.v 5) 3)) (.mul (.mul (.mul (.pw (.v 0) 2) (.v 4)) (.pw (.v 5) 2)) (.v 6))))) (.add (.add (.neg (.mul (.mul (.pw (.v 0) 2) (.pw (.v 5) 3)) (.v 6))) (.add (.neg (.mul (.mul (.pw (.v 0) 2) (.pw (.v 5) 2)) (.pw (.v 6) 2))) (.mul (.mul (.c 4) (.v 0)) (.pw (.v 1) 3)))) (.add (.mul (.mul (.mul (.c 3) (.v 0)) (.pw (.v 1) 2)) (.v 2)) (.add (.mul (.mul (.mul (.c (-2)) (.v 0)) (.pw (.v 1) 2)) (.pw (.v 4) 2)) (.mul (.mul (.mul (.mul (.c (-4)) (.v 0)) (.pw (.v 1) 2)) (.v 4)) (.v 6)))))) (.add (.add (.add (.mul (.mul (.mul (.c (-4)) (.v 0)) (.pw (.v 1) 2)) (.pw (.v 5) 2)) (.add (.mul (.mul (.mul (.mul (.c 2) (.v 0)) (.pw (.v 1) 2)) (.v 5)) (.v 6)) (.mul (.mul (.mul (.c 3) (.v 0)) (.pw (.v 1) 2)) (.pw (.v 6) 2)))) (.add (.mul (.mul (.mul (.c (-6)) (.v 0)) (.v 1)) (.pw (.v 2) 2)) (.add (.neg (.mul (.mul (.mul (.v 0) (.v 1)) (.v 2)) (.pw (.v 4) 2))) (.mul (.mul (.mul (.mul (.mul (.c (-8)) (.v 0)) (.v 1)) (.v 2)) (.v 4)) (.v 5))))) (.add (.add (.mul (.mul (.mul (.mul (.mul (.c (-6)) (.v 0)) (.v 1)) (.v 2)) (.v 4)) (.v 6)) (.add (.neg (.mul (.mul (.mul (.v 0) (.v 1)) (.v 2)) (.pw (.v 5) 2))) (.mul (.mul (.mul (.mul (.mul (.c 6) (.v 0)) (.v 1)) (.v 2)) (.v 5)) (.v 6)))) (.add (.mul (.mul (.mul (.mul (.c 6) (.v 0)) (.v 1)) (.v 2)) (.pw (.v 6) 2)) (.add (.mul (.mul (.mul (.mul (.c (-6)) (.v 0)) (.v 1)) (.v 3)) (.v 4)) (.mul (.mul (.mul (.mul (.c 2) (.v 0)) (.v 1)) (.v 3)) (.v 5)))))))) (.add (.add (.add (.add (.add (.neg (.mul (.mul (.v 0) (.v 1)) (.pw (.v 4) 4))) (.mul (.mul (.mul (.v 0) (.v 1)) (.pw (.v 4) 3)) (.v 5))) (.add (.mul (.mul (.mul (.mul (.c 5) (.v 0)) (.v 1)) (.pw (.v 4) 3)) (.v 6)) (.add (.mul (.mul (.mul (.mul (.c 2) (.v 0)) (.v 1)) (.pw (.v 4) 2)) (.pw (.v 5) 2)) (.mul (.mul (.mul (.mul (.mul (.c (-3)) (.v 0)) (.v 1)) (.pw (.v 4) 2)) (.v 5)) (.v 6))))) (.add (.add (.mul (.mul (.mul (.mul (.c (-4)) (.v 0)) (.v 1)) (.pw (.v 4) 2)) (.pw (.v 6) 2)) (.add (.mul (.mul (.mul (.v 0) (.v 1)) (.v 4)) (.pw (.v 5) 3)) (.mul (.mul (.mul (.mul (.mul (.c 3) (.v 0)) (.v 1)) (.v 4)) (.pw (.v 5) 2)) (.v 6)))) (.add (.mul (.mul (.v 0) (.v 1)) (.pw (.v 5) 4)) (.add (.neg (.mul (.mul (.mul (.v 0) (.v 1)) (.pw (.v 5) 3)) (.v 6))) (.mul (.mul (.mul (.mul (.c (-2)) (.v 0)) (.v 1)) (.pw (.v 5) 2)) (.pw (.v 6) 2)))))) (.add (.add (.add (.mul (.mul (.c (-5)) (.v 0)) (.pw (.v 2) 3)) (.add (.mul (.mul (.mul (.c 3) (.v 0)) (.pw (.v 2) 2)) (.pw (.v 4) 2)) (.mul (.mul (.mul (.mul (.c (-4)) (.v 0)) (.pw (.v 2) 2)) (.v 4)) (.v 5)))) (.add (.mul (.mul (.mul (.mul (.c (-2)) (.v 0)) (.pw (.v 2) 2)) (.v 4)) (.v 6)) (.add (.mul (.mul (.mul (.c 5) (.v 0)) (.pw (.v 2) 2)) (.pw (.v 5) 2)) (.mul (.mul (.mul (.mul (.c 4) (.v 0)) (.pw (.v 2) 2)) (.v 5)) (.v 6))))) (.add (.add (.mul (.mul (.mul (.c 3) (.v 0)) (.pw (.v 2) 2)) (.pw (.v 6) 2)) (.add (.mul (.mul (.mul (.mul (.c (-4)) (.v 0)) (.v 2)) (.v 3)) (.v 4)) (.mul (.mul (.mul (.mul (.c 4) (.v 0)) (.v 2)) (.v 3)) (.v 5)))) (.add (.mul (.mul (.mul (.mul (.c 5) (.v 0)) (.v 2)) (.pw (.v 4) 3)) (.v 5)) (.add (.mul (.mul (.mul (.mul (.c 5) (.v 0)) (.v 2)) (.pw (.v 4) 3)) (.v 6)) (.mul (.mul (.mul (.mul (.mul (.c (-3)) (.v 0)) (.v 2)) (.pw (.v 4) 2)) (.v 5)) (.v 6))))))) (.add (.add (.add (.add (.mul (.mul (.mul (.mul (.c (-4)) (.v 0)) (.v 2)) (.pw (.v 4) 2)) (.pw (.v 6) 2)) (.add (.mul (.mul (.mul (.mul (.c 3) (.v 0)) (.v 2)) (.v 4)) (.pw (.v 5) 3)) (.mul (.mul (.mul (.mul (.v 0) (.v 2)) (.v 4)) (.pw (.v 5) 2)) (.v 6)))) (.add (.neg (.mul (.mul (.v 0) (.v 2)) (.pw (.v 5) 4))) (.add (.mul (.mul (.mul (.mul (.c (-3)) (.v 0)) (.v 2)) (.pw (.v 5) 3)) (.v 6)) (.mul (.mul (.mul (.mul (.c (-2)) (.v 0)) (.v 2)) (.pw (.v 5) 2)) (.pw (.v 6) 2))))) (.add (.add (.mul (.mul (.mul (.c 2) (.v 0)) (.v 3)) (.pw (.v 4) 3)) (.add (.mul (.mul (.mul (.mul (.c 2) (.v 0)) (.v 3)) (.pw (.v 4) 2)) (.v 6)) (.mul (.mul (.mul (.mul (.c 4) (.v 0)) (.v 3)) (.v 4)) (.pw (.v 5) 2)))) (.add (.mul (.mul (.mul (.c (-2)) (.v 0)) (.v 3)) (.pw (.v 5) 3)) (.add (.mul (.mul (.mul (.mul (.c (-2)) (.v 0)) (.v 3)) (.pw (.v 5) 2)) (.v 6)) (.mul (.v 0) (.pw (.v 4) 6)))))) (.add (.add (.add (.mul (.mul (.mul (.c (-2)) (.v 0)) (.pw (.v 4) 5)) (.v 6)) (.add (.neg (.mul (.mul (.v 0) (.pw (.v 4) 4)) (.pw (.v 5) 2))) (.mul (.mul (.v 0) (.pw (.v 4) 4)) (.pw (.v 6) 2)))) (.add (.mul (.mul (.mul (.c (-2)) (.v 0)) (.pw (.v 4) 3)) (.pw (.v 5) 3)) (.add (.mul (.mul (.mul (.mul (.c (-2)) (.v 0)) (.pw (.v 4) 3)) (.pw (.v 5) 2)) (.v 6)) (.mul (.mul (.mul (.mul (.c 2) (.v 0)) (.pw (.v 4) 2)) (.pw (.v 5) 3)) (.v 6))))) (.add (.add (.mul (.mul (.mul (.mul (.c 2) (.v 0)) (.pw (.v 4) 2)) (.pw (.v 5) 2)) (.pw (.v 6) 2)) (.add (.pw (.v 1) 4) (.mul (.pw (.v 1) 3) (.v 2)))) (.add (.neg (.mul (.pw (.v 1) 3) (.pw (.v 4) 2))) (.add (.neg (.mul (.mul (.pw (.v 1) 3) (.v 4)) (.v 5))) (.neg (.mul (.mul (.pw (.v 1) 3) (.v 4)) (.v 6)))))))))) (.add (.add (.add (.add (.add (.add (.mul (.mul (.c (-2)) (.pw (.v 1) 3)) (.pw (.v 5) 2)) (.mul (.mul (.pw (.v 1) 3) (.v 5)) (.v 6))) (.add (.mul (.pw (.v 1) 3) (.pw (.v 6) 2)) (.add (.mul (.mul (.c (-3)) (.pw (.v 1) 2)) (.pw (.v 2) 2)) (.neg (.mul (.mul (.pw (.v 1) 2) (.v 2)) (.pw (.v 4) 2)))))) (.add (.add (.mul (.mul (.mul (.mul (.c (-6)) (.pw (.v 1) 2)) (.v 2)) (.v 4)) (.v 5)) (.add (.mul (.mul (.mul (.mul (.c (-2)) (.pw (.v 1) 2)) (.v 2)) (.v 4)) (.v 6)) (.mul (.mul (.mul (.c (-2)) (.pw (.v 1) 2)) (.v 2)) (.pw (.v 5) 2)))) (.add (.mul (.mul (.mul (.mul (.c 4) (.pw (.v 1) 2)) (.v 2)) (.v 5)) (.v 6)) (.add (.mul (.mul (.mul (.c 3) (.pw (.v 1) 2)) (.v 2)) (.pw (.v 6) 2)) (.mul (.mul (.mul (.c (-2)) (.pw (.v 1) 2)) (.v 3)) (.v 4)))))) (.add (.add (.add (.mul (.mul (.mul (.c 2) (.pw (.v 1) 2)) (.v 3)) (.v 5)) (.add (.mul (.mul (.c 2) (.pw (.v 1) 2)) (.pw (.v 4) 4)) (.mul (.mul (.mul (.c 5) (.pw (.v 1) 2)) (.pw (.v 4) 3)) (.v 5)))) (.add (.mul (.mul (.pw (.v 1) 2) (.pw (.v 4) 3)) (.v 6)) (.add (.mul (.mul (.pw (.v 1) 2) (.pw (.v 4) 2)) (.pw (.v 5) 2)) (.mul (.mul (.mul (.mul (.c (-3)) (.pw (.v 1) 2)) (.pw (.v 4) 2)) (.v 5)) (.v 6))))) (.add (.add (.mul (.mul (.mul (.c (-2)) (.pw (.v 1) 2)) (.pw (.v 4) 2)) (.pw (.v 6) 2)) (.add (.mul (.mul (.mul (.c (-2)) (.pw (.v 1) 2)) (.v 4)) (.pw (.v 5) 3)) (.mul (.mul (.mul (.mul (.c 2) (.pw (.v 1) 2)) (.v 4)) (.pw (.v 5) 2)) (.v 6)))) (.add (.neg (.mul (.mul (.pw (.v 1) 2) (.pw (.v 5) 2)) (.pw (.v 6) 2))) (.add (.mul (.mul (.c (-5)) (.v 1)) (.pw (.v 2) 3)) (.mul (.mul (.mul (.c 3) (.v 1)) (.pw (.v 2) 2)) (.pw (.v 4) 2))))))) (.add (.add (.add (.add (.mul (.mul (.mul (.mul (.c (-5)) (.v 1)) (.pw (.v 2) 2)) (.v 4)) (.v 5)) (.add (.neg (.mul (.mul (.mul (.v 1) (.pw (.v 2) 2)) (.v 4)) (.v 6))) (.mul (.mul (.mul (.c 4) (.v 1)) (.pw (.v 2) 2)) (.pw (.v 5) 2)))) (.add (.mul (.mul (.mul (.mul (.c 5) (.v 1)) (.pw (.v 2) 2)) (.v 5)) (.v 6)) (.add (.mul (.mul (.mul (.c 3) (.v 1)) (.pw (.v 2) 2)) (.pw (.v 6) 2)) (.mul (.mul (.mul (.mul (.c (-2)) (.v 1)) (.v 2)) (.v 3)) (.v 4))))) (.add (.add (.mul (.mul (.mul (.mul (.c 6) (.v 1)) (.v 2)) (.v 3)) (.v 5)) (.add (.mul (.mul (.mul (.mul (.c 4) (.v 1)) (.v 2)) (.pw (.v 4) 3)) (.v 5)) (.mul (.mul (.mul (.mul (.c 2) (.v 1)) (.v 2)) (.pw (.v 4) 3)) (.v 6)))) (.add (.neg (.mul (.mul (.mul (.v 1) (.v 2)) (.pw (.v 4) 2)) (.pw (.v 5) 2))) (.add (.mul (.mul (.mul (.mul (.mul (.c (-6)) (.v 1)) (.v 2)) (.pw (.v 4) 2)) (.v 5)) (.v 6)) (.mul (.mul (.mul (.mul (.c (-4)) (.v 1)) (.v 2)) (.pw (.v 4) 2)) (.pw (.v 6) 2)))))) (.add (.add (.add (.mul (.mul (.mul (.mul (.c 6) (.v 1)) (.v 2)) (.v 4)) (.pw (.v 5) 3)) (.add (.mul (.mul (.mul (.mul (.mul (.c 2) (.v 1)) (.v 2)) (.v 4)) (.pw (.v 5) 2)) (.v 6)) (.mul (.mul (.mul (.c 2) (.v 1)) (.v 2)) (.pw (.v 5) 4)))) (.add (.mul (.mul (.mul (.mul (.c (-2)) (.v 1)) (.v 2)) (.pw (.v 5) 3)) (.v 6)) (.add (.mul (.mul (.mul (.mul (.c (-2)) (.v 1)) (.v 2)) (.pw (.v 5) 2)) (.pw (.v 6) 2)) (.mul (.mul (.mul (.c (-4)) (.v 1)) (.v 3)) (.pw (.v 4) 3))))) (.add (.add (.mul (.mul (.mul (.mul (.c (-6)) (.v 1)) (.v 3)) (.pw (.v 4) 2)) (.v 5)) (.add (.mul (.mul (.mul (.mul (.c 2) (.v 1)) (.v 3)) (.pw (.v 4) 2)) (.v 6)) (.mul (.mul (.mul (.mul (.c 8) (.v 1)) (.v 3)) (.v 4)) (.pw (.v 5) 2)))) (.add (.mul (.mul (.mul (.c 2) (.v 1)) (.v 3)) (.pw (.v 5) 3)) (.add (.mul (.mul (.mul (.mul (.c (-2)) (.v 1)) (.v 3)) (.pw (.v 5) 2)) (.v 6)) (.neg (.mul (.v 1) (.pw (.v 4) 6))))))))) (.add (.add (.add (.add (.add (.mul (.mul (.mul (.c (-2)) (.v 1)) (.pw (.v 4) 5)) (.v 5)) (.mul (.mul (.v 1) (.pw (.v 4) 4)) (.pw (.v 5) 2))) (.add (.mul (.mul (.mul (.mul (.c 2) (.v 1)) (.pw (.v 4) 4)) (.v 5)) (.v 6)) (.add (.mul (.mul (.v 1) (.pw (.v 4) 4)) (.pw (.v 6) 2)) (.neg (.mul (.mul (.v 1) (.pw (.v 4) 3)) (.pw (.v 5) 3)))))) (.add (.add (.mul (.mul (.mul (.mul (.c (-3)) (.v 1)) (.pw (.v 4) 3)) (.pw (.v 5) 2)) (.v 6)) (.add (.neg (.mul (.mul (.v 1) (.pw (.v 4) 2)) (.pw (.v 5) 4))) (.mul (.mul (.mul (.v 1) (.pw (.v 4) 2)) (.pw (.v 5) 3)) (.v 6)))) (.add (.mul (.mul (.mul (.mul (.c 2) (.v 1)) (.pw (.v 4) 2)) (.pw (.v 5) 2)) (.pw (.v 6) 2)) (.add (.mul (.c (-2)) (.pw (.v 2) 4)) (.mul (.mul (.c 3) (.pw (.v 2) 3)) (.pw (.v 4) 2)))))) (.add (.add (.add (.mul (.mul (.c 4) (.pw (.v 2) 3)) (.pw (.v 5) 2)) (.add (.mul (.mul (.mul (.c 2) (.pw (.v 2) 3)) (.v 5)) (.v 6)) (.mul (.pw (.v 2) 3) (.pw (.v 6) 2)))) (.add (.mul (.mul (.mul (.c 4) (.pw (.v 2) 2)) (.v 3)) (.v 5)) (.add (.mul (.mul (.mul (.c 3) (.pw (.v 2) 2)) (.pw (.v 4) 3)) (.v 5)) (.mul (.mul (.pw (.v 2) 2) (.pw (.v 4) 3)) (.v 6))))) (.add (.add (.mul (.mul (.mul (.c (-4)) (.pw (.v 2) 2)) (.pw (.v 4) 2)) (.pw (.v 5) 2)) (.add (.mul (.mul (.mul (.mul (.c (-3)) (.pw (.v 2) 2)) (.pw (.v 4) 2)) (.v 5)) (.v 6)) (.mul (.mul (.mul (.c (-2)) (.pw (.v 2) 2)) (.pw (.v 4) 2)) (.pw (.v 6) 2)))) (.add (.mul (.mul (.c (-2)) (.pw (.v 2) 2)) (.pw (.v 5) 4)) (.add (.mul (.mul (.mul (.c (-2)) (.pw (.v 2) 2)) (.pw (.v 5) 3)) (.v 6)) (.neg (.mul (.mul (.pw (.v 2) 2) (.pw (.v 5) 2)) (.pw (.v 6) 2)))))))) (.add (.add (.add (.add (.mul (.mul (.mul (.c 2) (.v 2)) (.v 3)) (.pw (.v 4) 3)) (.add (.mul (.mul (.mul (.mul (.c 2) (.v 2)) (.v 3)) (.pw (.v 4) 2)) (.v 6)) (.mul (.mul (.mul (.c (-6)) (.v 2)) (.v 3)) (.pw (.v 5) 3)))) (.add (.mul (.mul (.mul (.mul (.c (-2)) (.v 2)) (.v 3)) (.pw (.v 5) 2)) (.v 6)) (.add (.neg (.mul (.mul (.v 2) (.pw (.v 4) 5)) (.v 5))) (.neg (.mul (.mul (.v 2) (.pw (.v 4) 5)) (.v 6)))))) (.add (.add (.mul (.mul (.mul (.v 2) (.pw (.v 4) 4)) (.v 5)) (.v 6)) (.add (.mul (.mul (.v 2) (.pw (.v 4) 4)) (.pw (.v 6) 2)) (.mul (.mul (.mul (.c (-3)) (.v 2)) (.pw (.v 4) 3)) (.pw (.v 5) 3)))) (.add (.neg (.mul (.mul (.mul (.v 2) (.pw (.v 4) 3)) (.pw (.v 5) 2)) (.v 6))) (.add (.mul (.mul (.v 2) (.pw (.v 4) 2)) (.pw (.v 5) 4)) (.mul (.mul (.mul (.mul (.c 3) (.v 2)) (.pw (.v 4) 2)) (.pw (.v 5) 3)) (.v 6)))))) (.add (.add (.add (.mul (.mul (.mul (.mul (.c 2) (.v 2)) (.pw (.v 4) 2)) (.pw (.v 5) 2)) (.pw (.v 6) 2)) (.add (.mul (.mul (.c 4) (.pw (.v 3) 2)) (.pw (.v 4) 2)) (.mul (.mul (.c (-4)) (.pw (.v 3) 2)) (.pw (.v 5) 2)))) (.add (.mul (.mul (.c 2) (.v 3)) (.pw (.v 4) 5)) (.add (.mul (.mul (.mul (.c (-2)) (.v 3)) (.pw (.v 4) 4)) (.v 6)) (.mul (.mul (.mul (.c (-4)) (.v 3)) (.pw (.v 4) 3)) (.pw (.v 5) 2))))) (.add (.add (.mul (.mul (.mul (.c 2) (.v 3)) (.pw (.v 4) 2)) (.pw (.v 5) 3)) (.add (.mul (.mul (.mul (.mul (.c 2) (.v 3)) (.pw (.v 4) 2)) (.pw (.v 5) 2)) (.v 6)) (.mul (.pw (.v 4) 5) (.pw (.v 5) 3)))) (.add (.mul (.mul (.pw (.v 4) 5) (.pw (.v 5) 2)) (.v 6)) (.add (.neg (.mul (.mul (.pw (.v 4) 4) (.pw (.v 5) 3)) (.v 6))) (.neg (.mul (.mul (.pw (.v 4) 4) (.pw (.v 5) 2)) (.pw (.v 6) 2))))))))))),.sub (.mul (.v 6) (.sub (.sub (.sub (.mul (.v 4) (.v 4)) (.v 0)) (.v 1)) (.v 2))) (.sub (.sub (.mul (.v 4) (.sub (.v 1) (.sub (.sub (.mul (.v 4) (.v 4)) (.v 0)) (.v 1)))) (.v 3)) (.add (.v 3) (.mul (.v 5) (.sub (.v 2) (.v 1)))))),
  ((.add (.add (.add (.add (.add (.neg (.mul (.pw (.v 0) 3) (.v 1))) (.add (.mul (.pw (.v 0) 3) (.v 2)) (.mul (.pw (.v 0) 3) (.pw (.v 4) 2)))) (.add (.neg (.mul (.pw (.v 0) 3) (.pw (.v 6) 2))) (.add (.mul (.mul (.c (-3)) (.pw (.v 0) 2)) (.pw (.v 1) 2)) (.mul (.mul (.mul (.c 6) (.pw (.v 0) 2)) (.v 1)) (.pw (.v 4) 2))))) (.add (.add (.mul (.mul (.mul (.c (-3)) (.pw (.v 0) 2)) (.v 1)) (.pw (.v 6) 2)) (.add (.mul (.mul (.c 3) (.pw (.v 0) 2)) (.pw (.v 2) 2)) (.mul (.mul (.mul (.c (-3)) (.pw (.v 0) 2)) (.v 2)) (.pw (.v 6) 2)))) (.add (.mul (.mul (.c (-3)) (.pw (.v 0) 2)) (.pw (.v 4) 4)) (.add (.mul (.mul (.mul (.c 3) (.pw (.v 0) 2)) (.pw (.v 4) 2)) (.pw (.v 6) 2)) (.mul (.mul (.c (-3)) (.v 0)) (.pw (.v 1) 3)))))) (.add (.add (.add (.mul (.mul (.mul (.c (-3)) (.v 0)) (.pw (.v 1) 2)) (.v 2)) (.add (.mul (.mul (.mul (.c 9) (.v 0)) (.pw (.v 1) 2)) (.pw (.v 4) 2)) (.mul (.mul (.mul (.c (-3)) (.v 0)) (.pw (.v 1) 2)) (.pw (.v 6) 2)))) (.add (.mul (.mul (.mul (.c 3) (.v 0)) (.v 1)) (.pw (.v 2) 2)) (.add (.mul (.mul (.mul (.mul (.c 6) (.v 0)) (.v 1)) (.v 2)) (.pw (.v 4) 2)) (.mul (.mul (.mul (.mul (.c (-6)) (.v 0)) (.v 1)) (.v 2)) (.pw (.v 6) 2))))) (.add (.add (.mul (.mul (.mul (.c (-9)) (.v 0)) (.v 1)) (.pw (.v 4) 4)) (.add (.mul (.mul (.mul (.mul (.c 6) (.v 0)) (.v 1)) (.pw (.v 4) 2)) (.pw (.v 6) 2)) (.mul (.mul (.c 3) (.v 0)) (.pw (.v 2) 3)))) (.add (.mul (.mul (.mul (.c (-3)) (.v 0)) (.pw (.v 2) 2)) (.pw (.v 4) 2)) (.add (.mul (.mul (.mul (.c (-3)) (.v 0)) (.pw (.v 2) 2)) (.pw (.v 6) 2)) (.mul (.mul (.mul (.c (-3)) (.v 0)) (.v 2)) (.pw (.v 4) 4))))))) (.add (.add (.add (.add (.mul (.mul (.mul (.mul (.c 6) (.v 0)) (.v 2)) (.pw (.v 4) 2)) (.pw (.v 6) 2)) (.add (.mul (.mul (.c 3) (.v 0)) (.pw (.v 4) 6)) (.mul (.mul (.mul (.c (-3)) (.v 0)) (.pw (.v 4) 4)) (.pw (.v 6) 2)))) (.add (.neg (.pw (.v 1) 4)) (.add (.mul (.mul (.c (-2)) (.pw (.v 1) 3)) (.v 2)) (.mul (.mul (.c 4) (.pw (.v 1) 3)) (.pw (.v 4) 2))))) (.add (.add (.neg (.mul (.pw (.v 1) 3) (.pw (.v 6) 2))) (.add (.mul (.mul (.mul (.c 6) (.pw (.v 1) 2)) (.v 2)) (.pw (.v 4) 2)) (.mul (.mul (.mul (.c (-3)) (.pw (.v 1) 2)) (.v 2)) (.pw (.v 6) 2)))) (.add (.mul (.mul (.c (-6)) (.pw (.v 1) 2)) (.pw (.v 4) 4)) (.add (.mul (.mul (.mul (.c 3) (.pw (.v 1) 2)) (.pw (.v 4) 2)) (.pw (.v 6) 2)) (.mul (.mul (.c 2) (.v 1)) (.pw (.v 2) 3)))))) (.add (.add (.add (.mul (.mul (.mul (.c (-3)) (.v 1)) (.pw (.v 2) 2)) (.pw (.v 6) 2)) (.add (.mul (.mul (.mul (.c (-6)) (.v 1)) (.v 2)) (.pw (.v 4) 4)) (.mul (.mul (.mul (.mul (.c 6) (.v 1)) (.v 2)) (.pw (.v 4) 2)) (.pw (.v 6) 2)))) (.add (.mul (.mul (.c 4) (.v 1)) (.pw (.v 4) 6)) (.add (.mul (.mul (.mul (.c (-3)) (.v 1)) (.pw (.v 4) 4)) (.pw (.v 6) 2)) (.pw (.v 2) 4)))) (.add (.add (.mul (.mul (.c (-2)) (.pw (.v 2) 3)) (.pw (.v 4) 2)) (.add (.neg (.mul (.pw (.v 2) 3) (.pw (.v 6) 2))) (.mul (.mul (.mul (.c 3) (.pw (.v 2) 2)) (.pw (.v 4) 2)) (.pw (.v 6) 2)))) (.add (.add (.mul (.mul (.c 2) (.v 2)) (.pw (.v 4) 6)) (.mul (.mul (.mul (.c (-3)) (.v 2)) (.pw (.v 4) 4)) (.pw (.v 6) 2))) (.add (.neg (.pw (.v 4) 8)) (.mul (.pw (.v 4) 6) (.pw (.v 6) 2)))))))),.sub (.mul (.v 7) (.sub (.sub (.sub (.mul (.v 5) (.v 5)) (.v 1)) (.v 2)) (.v 0))) (.sub (.sub (.mul (.v 5) (.sub (.v 1) (.sub (.sub (.mul (.v 5) (.v 5)) (.v 1)) (.v 2)))) (.v 3)) (.add (.v 3) (.mul (.v 4) (.sub (.v 0) (.v 1))))))] ⟨AT.2 r1,AT.2 r2,AT.2 hs,AT.2 ht,trivial⟩ (by kernel_rfl))
theorem spX {F:Type} [CR F] (x h m k s:F) (r2:(((m*k)*h)+((m*k)*h))=(((x*x)+(x*(x+(h+h))))+((x+(h+h))*(x+(h+h))))) (rs:((((k+m)*h)+((k+m)*h))*s)=((((x+(h+h))*(x+(h+h)))+((x+(h+h))*(x+(h+h))))+((x+(h+h))*(x+(h+h))))):(((((k+m)*h)+((k+m)*h))*(((k+m)*h)+((k+m)*h)))*((((((m*m)-x)-(x+(h+h)))-(((k*k)-x)-(x+(h+h))))*((((m*m)-x)-(x+(h+h)))-(((k*k)-x)-(x+(h+h)))))*(((s*s)-(x+(h+h)))-(x+(h+h)))))=(((((k+m)*h)+((k+m)*h))*(((k+m)*h)+((k+m)*h)))*(((((m*(x-(((m*m)-x)-(x+(h+h)))))-((k-m)*h))-((k*(x-(((k*k)-x)-(x+(h+h)))))+((k-m)*h)))*(((m*(x-(((m*m)-x)-(x+(h+h)))))-((k-m)*h))-((k*(x-(((k*k)-x)-(x+(h+h)))))+((k-m)*h))))-((((((m*m)-x)-(x+(h+h)))-(((k*k)-x)-(x+(h+h))))*((((m*m)-x)-(x+(h+h)))-(((k*k)-x)-(x+(h+h)))))*((((k*k)-x)-(x+(h+h)))+(((m*m)-x)-(x+(h+h))))))) :=
 AT.1 (BG [x,h,m,k,s] (.sub (.mul (.mul (.add (.mul (.add (.v 3) (.v 2)) (.v 1)) (.mul (.add (.v 3) (.v 2)) (.v 1))) (.add (.mul (.add (.v 3) (.v 2)) (.v 1)) (.mul (.add (.v 3) (.v 2)) (.v 1)))) (.mul (.mul (.sub (.sub (.sub (.mul (.v 2) (.v 2)) (.v 0)) (.add (.v 0) (.add (.v 1) (.v 1)))) (.sub (.sub (.mul (.v 3) (.v 3)) (.v 0)) (.add (.v 0) (.add (.v 1) (.v 1))))) (.sub (.sub (.sub (.mul (.v 2) (.v 2)) (.v 0)) (.add (.v 0) (.add (.v 1) (.v 1)))) (.sub (.sub (.mul (.v 3) (.v 3)) (.v 0)) (.add (.v 0) (.add (.v 1) (.v 1)))))) (.sub (.sub (.mul (.v 4) (.v 4)) (.add (.v 0) (.add (.v 1) (.v 1)))) (.add (.v 0) (.add (.v 1) (.v 1)))))) (.mul (.mul (.add (.mul (.add (.v 3) (.v 2)) (.v 1)) (.mul (.add (.v 3) (.v 2)) (.v 1))) (.add (.mul (.add (.v 3) (.v 2)) (.v 1)) (.mul (.add (.v 3) (.v 2)) (.v 1)))) (.sub (.mul (.sub (.sub (.mul (.v 2) (.sub (.v 0) (.sub (.sub (.mul (.v 2) (.v 2)) (.v 0)) (.add (.v 0) (.add (.v 1) (.v 1)))))) (.mul (.sub (.v 3) (.v 2)) (.v 1))) (.add (.mul (.v 3) (.sub (.v 0) (.sub (.sub (.mul (.v 3) (.v 3)) (.v 0)) (.add (.v 0) (.add (.v 1) (.v 1)))))) (.mul (.sub (.v 3) (.v 2)) (.v 1)))) (.sub (.sub (.mul (.v 2) (.sub (.v 0) (.sub (.sub (.mul (.v 2) (.v 2)) (.v 0)) (.add (.v 0) (.add (.v 1) (.v 1)))))) (.mul (.sub (.v 3) (.v 2)) (.v 1))) (.add (.mul (.v 3) (.sub (.v 0) (.sub (.sub (.mul (.v 3) (.v 3)) (.v 0)) (.add (.v 0) (.add (.v 1) (.v 1)))))) (.mul (.sub (.v 3) (.v 2)) (.v 1))))) (.mul (.mul (.sub (.sub (.sub (.mul (.v 2) (.v 2)) (.v 0)) (.add (.v 0) (.add (.v 1) (.v 1)))) (.sub (.sub (.mul (.v 3) (.v 3)) (.v 0)) (.add (.v 0) (.add (.v 1) (.v 1))))) (.sub (.sub (.sub (.mul (.v 2) (.v 2)) (.v 0)) (.add (.v 0) (.add (.v 1) (.v 1)))) (.sub (.sub (.mul (.v 3) (.v 3)) (.v 0)) (.add (.v 0) (.add (.v 1) (.v 1)))))) (.add (.sub (.sub (.mul (.v 3) (.v 3)) (.v 0)) (.add (.v 0) (.add (.v 1) (.v 1)))) (.sub (.sub (.mul (.v 2) (.v 2)) (.v 0)) (.add (.v 0) (.add (.v 1) (.v 1))))))))) [((.add (.add (.add (.mul (.mul (.c (-3)) (.pw (.v 0) 2)) (.pw (.v 2) 4)) (.add (.mul (.mul (.mul (.c 6) (.pw (.v 0) 2)) (.pw (.v 2) 2)) (.pw (.v 3) 2)) (.mul (.mul (.c (-3)) (.pw (.v 0) 2)) (.pw (.v 3) 4)))) (.add (.mul (.mul (.mul (.c (-18)) (.v 0)) (.v 1)) (.pw (.v 2) 4)) (.add (.mul (.mul (.mul (.mul (.c 36) (.v 0)) (.v 1)) (.pw (.v 2) 2)) (.pw (.v 3) 2)) (.mul (.mul (.mul (.c (-18)) (.v 0)) (.v 1)) (.pw (.v 3) 4))))) (.add (.add (.mul (.mul (.c (-20)) (.pw (.v 1) 2)) (.pw (.v 2) 4)) (.add (.mul (.mul (.mul (.c 40) (.pw (.v 1) 2)) (.pw (.v 2) 2)) (.pw (.v 3) 2)) (.mul (.mul (.c (-20)) (.pw (.v 1) 2)) (.pw (.v 3) 4)))) (.add (.mul (.mul (.mul (.c (-2)) (.v 1)) (.pw (.v 2) 5)) (.v 3)) (.add (.mul (.mul (.mul (.c 4) (.v 1)) (.pw (.v 2) 3)) (.pw (.v 3) 3)) (.mul (.mul (.mul (.c (-2)) (.v 1)) (.v 2)) (.pw (.v 3) 5)))))),.sub (.add (.mul (.mul (.v 2) (.v 3)) (.v 1)) (.mul (.mul (.v 2) (.v 3)) (.v 1))) (.add (.add (.mul (.v 0) (.v 0)) (.mul (.v 0) (.add (.v 0) (.add (.v 1) (.v 1))))) (.mul (.add (.v 0) (.add (.v 1) (.v 1))) (.add (.v 0) (.add (.v 1) (.v 1)))))),
  ((.add (.add (.add (.mul (.mul (.c 3) (.pw (.v 0) 2)) (.pw (.v 2) 4)) (.add (.mul (.mul (.mul (.c (-6)) (.pw (.v 0) 2)) (.pw (.v 2) 2)) (.pw (.v 3) 2)) (.mul (.mul (.c 3) (.pw (.v 0) 2)) (.pw (.v 3) 4)))) (.add (.add (.mul (.mul (.mul (.c 12) (.v 0)) (.v 1)) (.pw (.v 2) 4)) (.mul (.mul (.mul (.mul (.c (-24)) (.v 0)) (.v 1)) (.pw (.v 2) 2)) (.pw (.v 3) 2))) (.add (.mul (.mul (.mul (.c 12) (.v 0)) (.v 1)) (.pw (.v 3) 4)) (.mul (.mul (.c 12) (.pw (.v 1) 2)) (.pw (.v 2) 4))))) (.add (.add (.add (.mul (.mul (.mul (.c (-24)) (.pw (.v 1) 2)) (.pw (.v 2) 2)) (.pw (.v 3) 2)) (.mul (.mul (.c 12) (.pw (.v 1) 2)) (.pw (.v 3) 4))) (.add (.mul (.mul (.mul (.c 2) (.v 1)) (.pw (.v 2) 5)) (.v 4)) (.mul (.mul (.mul (.mul (.c 2) (.v 1)) (.pw (.v 2) 4)) (.v 3)) (.v 4)))) (.add (.add (.mul (.mul (.mul (.mul (.c (-4)) (.v 1)) (.pw (.v 2) 3)) (.pw (.v 3) 2)) (.v 4)) (.mul (.mul (.mul (.mul (.c (-4)) (.v 1)) (.pw (.v 2) 2)) (.pw (.v 3) 3)) (.v 4))) (.add (.mul (.mul (.mul (.mul (.c 2) (.v 1)) (.v 2)) (.pw (.v 3) 4)) (.v 4)) (.mul (.mul (.mul (.c 2) (.v 1)) (.pw (.v 3) 5)) (.v 4)))))),.sub (.mul (.add (.mul (.add (.v 3) (.v 2)) (.v 1)) (.mul (.add (.v 3) (.v 2)) (.v 1))) (.v 4)) (.add (.add (.mul (.add (.v 0) (.add (.v 1) (.v 1))) (.add (.v 0) (.add (.v 1) (.v 1)))) (.mul (.add (.v 0) (.add (.v 1) (.v 1))) (.add (.v 0) (.add (.v 1) (.v 1))))) (.mul (.add (.v 0) (.add (.v 1) (.v 1))) (.add (.v 0) (.add (.v 1) (.v 1))))))] ⟨AT.2 r2,AT.2 rs,trivial⟩ (by kernel_rfl))
theorem spY {F:Type} [CR F] (x h m k s:F) (r2:(((m*k)*h)+((m*k)*h))=(((x*x)+(x*(x+(h+h))))+((x+(h+h))*(x+(h+h))))) (rs:((((k+m)*h)+((k+m)*h))*s)=((((x+(h+h))*(x+(h+h)))+((x+(h+h))*(x+(h+h))))+((x+(h+h))*(x+(h+h))))):((((((k+m)*h)+((k+m)*h))*(((k+m)*h)+((k+m)*h)))*(((k+m)*h)+((k+m)*h)))*(((((m*m)-x)-(x+(h+h)))-(((k*k)-x)-(x+(h+h))))*((s*((x+(h+h))-(((s*s)-(x+(h+h)))-(x+(h+h)))))-((k+m)*h))))=((((((k+m)*h)+((k+m)*h))*(((k+m)*h)+((k+m)*h)))*(((k+m)*h)+((k+m)*h)))*(((((m*(x-(((m*m)-x)-(x+(h+h)))))-((k-m)*h))-((k*(x-(((k*k)-x)-(x+(h+h)))))+((k-m)*h)))*((((k*k)-x)-(x+(h+h)))-(((s*s)-(x+(h+h)))-(x+(h+h)))))-(((((m*m)-x)-(x+(h+h)))-(((k*k)-x)-(x+(h+h))))*((k*(x-(((k*k)-x)-(x+(h+h)))))+((k-m)*h))))) :=
 AT.1 (BG [x,h,m,k,s] (.sub (.mul (.mul (.mul (.add (.mul (.add (.v 3) (.v 2)) (.v 1)) (.mul (.add (.v 3) (.v 2)) (.v 1))) (.add (.mul (.add (.v 3) (.v 2)) (.v 1)) (.mul (.add (.v 3) (.v 2)) (.v 1)))) (.add (.mul (.add (.v 3) (.v 2)) (.v 1)) (.mul (.add (.v 3) (.v 2)) (.v 1)))) (.mul (.sub (.sub (.sub (.mul (.v 2) (.v 2)) (.v 0)) (.add (.v 0) (.add (.v 1) (.v 1)))) (.sub (.sub (.mul (.v 3) (.v 3)) (.v 0)) (.add (.v 0) (.add (.v 1) (.v 1))))) (.sub (.mul (.v 4) (.sub (.add (.v 0) (.add (.v 1) (.v 1))) (.sub (.sub (.mul (.v 4) (.v 4)) (.add (.v 0) (.add (.v 1) (.v 1)))) (.add (.v 0) (.add (.v 1) (.v 1)))))) (.mul (.add (.v 3) (.v 2)) (.v 1))))) (.mul (.mul (.mul (.add (.mul (.add (.v 3) (.v 2)) (.v 1)) (.mul (.add (.v 3) (.v 2)) (.v 1))) (.add (.mul (.add (.v 3) (.v 2)) (.v 1)) (.mul (.add (.v 3) (.v 2)) (.v 1)))) (.add (.mul (.add (.v 3) (.v 2)) (.v 1)) (.mul (.add (.v 3) (.v 2)) (.v 1)))) (.sub (.mul (.sub (.sub (.mul (.v 2) (.sub (.v 0) (.sub (.sub (.mul (.v 2) (.v 2)) (.v 0)) (.add (.v 0) (.add (.v 1) (.v 1)))))) (.mul (.sub (.v 3) (.v 2)) (.v 1))) (.add (.mul (.v 3) (.sub (.v 0) (.sub (.sub (.mul (.v 3) (.v 3)) (.v 0)) (.add (.v 0) (.add (.v 1) (.v 1)))))) (.mul (.sub (.v 3) (.v 2)) (.v 1)))) (.sub (.sub (.sub (.mul (.v 3) (.v 3)) (.v 0)) (.add (.v 0) (.add (.v 1) (.v 1)))) (.sub (.sub (.mul (.v 4) (.v 4)) (.add (.v 0) (.add (.v 1) (.v 1)))) (.add (.v 0) (.add (.v 1) (.v 1)))))) (.mul (.sub (.sub (.sub (.mul (.v 2) (.v 2)) (.v 0)) (.add (.v 0) (.add (.v 1) (.v 1)))) (.sub (.sub (.mul (.v 3) (.v 3)) (.v 0)) (.add (.v 0) (.add (.v 1) (.v 1))))) (.add (.mul (.v 3) (.sub (.v 0) (.sub (.sub (.mul (.v 3) (.v 3)) (.v 0)) (.add (.v 0) (.add (.v 1) (.v 1)))))) (.mul (.sub (.v 3) (.v 2)) (.v 1))))))) [((.add (.add (.add (.add (.mul (.mul (.c 9) (.pw (.v 0) 4)) (.pw (.v 2) 2)) (.add (.mul (.mul (.c (-9)) (.pw (.v 0) 4)) (.pw (.v 3) 2)) (.mul (.mul (.mul (.c 72) (.pw (.v 0) 3)) (.v 1)) (.pw (.v 2) 2)))) (.add (.mul (.mul (.mul (.c (-72)) (.pw (.v 0) 3)) (.v 1)) (.pw (.v 3) 2)) (.add (.mul (.mul (.mul (.c 216) (.pw (.v 0) 2)) (.pw (.v 1) 2)) (.pw (.v 2) 2)) (.mul (.mul (.mul (.c (-216)) (.pw (.v 0) 2)) (.pw (.v 1) 2)) (.pw (.v 3) 2))))) (.add (.add (.mul (.mul (.mul (.c 6) (.pw (.v 0) 2)) (.v 1)) (.pw (.v 2) 4)) (.add (.mul (.mul (.mul (.mul (.c 12) (.pw (.v 0) 2)) (.v 1)) (.pw (.v 2) 3)) (.v 3)) (.mul (.mul (.mul (.mul (.c (-12)) (.pw (.v 0) 2)) (.v 1)) (.v 2)) (.pw (.v 3) 3)))) (.add (.add (.mul (.mul (.mul (.c (-6)) (.pw (.v 0) 2)) (.v 1)) (.pw (.v 3) 4)) (.mul (.mul (.mul (.c 288) (.v 0)) (.pw (.v 1) 3)) (.pw (.v 2) 2))) (.add (.mul (.mul (.mul (.c (-288)) (.v 0)) (.pw (.v 1) 3)) (.pw (.v 3) 2)) (.mul (.mul (.mul (.c 24) (.v 0)) (.pw (.v 1) 2)) (.pw (.v 2) 4)))))) (.add (.add (.add (.mul (.mul (.mul (.mul (.c 48) (.v 0)) (.pw (.v 1) 2)) (.pw (.v 2) 3)) (.v 3)) (.add (.mul (.mul (.mul (.mul (.c (-48)) (.v 0)) (.pw (.v 1) 2)) (.v 2)) (.pw (.v 3) 3)) (.mul (.mul (.mul (.c (-24)) (.v 0)) (.pw (.v 1) 2)) (.pw (.v 3) 4)))) (.add (.mul (.mul (.c 144) (.pw (.v 1) 4)) (.pw (.v 2) 2)) (.add (.mul (.mul (.c (-144)) (.pw (.v 1) 4)) (.pw (.v 3) 2)) (.mul (.mul (.c 16) (.pw (.v 1) 3)) (.pw (.v 2) 4))))) (.add (.add (.mul (.mul (.mul (.c 32) (.pw (.v 1) 3)) (.pw (.v 2) 3)) (.v 3)) (.add (.mul (.mul (.mul (.c (-32)) (.pw (.v 1) 3)) (.v 2)) (.pw (.v 3) 3)) (.mul (.mul (.c (-16)) (.pw (.v 1) 3)) (.pw (.v 3) 4)))) (.add (.add (.mul (.mul (.mul (.c 4) (.pw (.v 1) 2)) (.pw (.v 2) 5)) (.v 3)) (.mul (.mul (.mul (.c 8) (.pw (.v 1) 2)) (.pw (.v 2) 4)) (.pw (.v 3) 2))) (.add (.mul (.mul (.mul (.c (-8)) (.pw (.v 1) 2)) (.pw (.v 2) 2)) (.pw (.v 3) 4)) (.mul (.mul (.mul (.c (-4)) (.pw (.v 1) 2)) (.v 2)) (.pw (.v 3) 5))))))),.sub (.add (.mul (.mul (.v 2) (.v 3)) (.v 1)) (.mul (.mul (.v 2) (.v 3)) (.v 1))) (.add (.add (.mul (.v 0) (.v 0)) (.mul (.v 0) (.add (.v 0) (.add (.v 1) (.v 1))))) (.mul (.add (.v 0) (.add (.v 1) (.v 1))) (.add (.v 0) (.add (.v 1) (.v 1)))))),
  ((.add (.add (.add (.add (.add (.mul (.mul (.c (-9)) (.pw (.v 0) 4)) (.pw (.v 2) 2)) (.mul (.mul (.c 9) (.pw (.v 0) 4)) (.pw (.v 3) 2))) (.add (.mul (.mul (.mul (.c (-54)) (.pw (.v 0) 3)) (.v 1)) (.pw (.v 2) 2)) (.add (.mul (.mul (.mul (.c 54) (.pw (.v 0) 3)) (.v 1)) (.pw (.v 3) 2)) (.mul (.mul (.mul (.c (-120)) (.pw (.v 0) 2)) (.pw (.v 1) 2)) (.pw (.v 2) 2))))) (.add (.add (.mul (.mul (.mul (.c 120) (.pw (.v 0) 2)) (.pw (.v 1) 2)) (.pw (.v 3) 2)) (.mul (.mul (.mul (.c (-6)) (.pw (.v 0) 2)) (.v 1)) (.pw (.v 2) 4))) (.add (.mul (.mul (.mul (.mul (.c (-6)) (.pw (.v 0) 2)) (.v 1)) (.pw (.v 2) 3)) (.v 3)) (.add (.mul (.mul (.mul (.mul (.c (-6)) (.pw (.v 0) 2)) (.v 1)) (.pw (.v 2) 3)) (.v 4)) (.mul (.mul (.mul (.mul (.mul (.c (-6)) (.pw (.v 0) 2)) (.v 1)) (.pw (.v 2) 2)) (.v 3)) (.v 4)))))) (.add (.add (.add (.mul (.mul (.mul (.mul (.c 6) (.pw (.v 0) 2)) (.v 1)) (.v 2)) (.pw (.v 3) 3)) (.mul (.mul (.mul (.mul (.mul (.c 6) (.pw (.v 0) 2)) (.v 1)) (.v 2)) (.pw (.v 3) 2)) (.v 4))) (.add (.mul (.mul (.mul (.c 6) (.pw (.v 0) 2)) (.v 1)) (.pw (.v 3) 4)) (.add (.mul (.mul (.mul (.mul (.c 6) (.pw (.v 0) 2)) (.v 1)) (.pw (.v 3) 3)) (.v 4)) (.mul (.mul (.mul (.c (-120)) (.v 0)) (.pw (.v 1) 3)) (.pw (.v 2) 2))))) (.add (.add (.mul (.mul (.mul (.c 120) (.v 0)) (.pw (.v 1) 3)) (.pw (.v 3) 2)) (.mul (.mul (.mul (.c (-12)) (.v 0)) (.pw (.v 1) 2)) (.pw (.v 2) 4))) (.add (.mul (.mul (.mul (.mul (.c (-12)) (.v 0)) (.pw (.v 1) 2)) (.pw (.v 2) 3)) (.v 4)) (.add (.mul (.mul (.mul (.mul (.mul (.c (-12)) (.v 0)) (.pw (.v 1) 2)) (.pw (.v 2) 2)) (.v 3)) (.v 4)) (.mul (.mul (.mul (.mul (.mul (.c 12) (.v 0)) (.pw (.v 1) 2)) (.v 2)) (.pw (.v 3) 2)) (.v 4))))))) (.add (.add (.add (.add (.mul (.mul (.mul (.c 12) (.v 0)) (.pw (.v 1) 2)) (.pw (.v 3) 4)) (.mul (.mul (.mul (.mul (.c 12) (.v 0)) (.pw (.v 1) 2)) (.pw (.v 3) 3)) (.v 4))) (.add (.mul (.mul (.c (-48)) (.pw (.v 1) 4)) (.pw (.v 2) 2)) (.add (.mul (.mul (.c 48) (.pw (.v 1) 4)) (.pw (.v 3) 2)) (.mul (.mul (.mul (.c 24) (.pw (.v 1) 3)) (.pw (.v 2) 3)) (.v 3))))) (.add (.add (.mul (.mul (.mul (.c (-8)) (.pw (.v 1) 3)) (.pw (.v 2) 3)) (.v 4)) (.mul (.mul (.mul (.mul (.c (-8)) (.pw (.v 1) 3)) (.pw (.v 2) 2)) (.v 3)) (.v 4))) (.add (.mul (.mul (.mul (.c (-24)) (.pw (.v 1) 3)) (.v 2)) (.pw (.v 3) 3)) (.add (.mul (.mul (.mul (.mul (.c 8) (.pw (.v 1) 3)) (.v 2)) (.pw (.v 3) 2)) (.v 4)) (.mul (.mul (.mul (.c 8) (.pw (.v 1) 3)) (.pw (.v 3) 3)) (.v 4)))))) (.add (.add (.add (.mul (.mul (.mul (.c (-4)) (.pw (.v 1) 2)) (.pw (.v 2) 5)) (.v 4)) (.mul (.mul (.mul (.mul (.c (-8)) (.pw (.v 1) 2)) (.pw (.v 2) 4)) (.v 3)) (.v 4))) (.add (.mul (.mul (.mul (.c (-4)) (.pw (.v 1) 2)) (.pw (.v 2) 4)) (.pw (.v 4) 2)) (.add (.mul (.mul (.mul (.mul (.c (-4)) (.pw (.v 1) 2)) (.pw (.v 2) 3)) (.pw (.v 3) 2)) (.v 4)) (.mul (.mul (.mul (.mul (.c (-8)) (.pw (.v 1) 2)) (.pw (.v 2) 3)) (.v 3)) (.pw (.v 4) 2))))) (.add (.add (.mul (.mul (.mul (.mul (.c 4) (.pw (.v 1) 2)) (.pw (.v 2) 2)) (.pw (.v 3) 3)) (.v 4)) (.mul (.mul (.mul (.mul (.c 8) (.pw (.v 1) 2)) (.v 2)) (.pw (.v 3) 4)) (.v 4))) (.add (.mul (.mul (.mul (.mul (.c 8) (.pw (.v 1) 2)) (.v 2)) (.pw (.v 3) 3)) (.pw (.v 4) 2)) (.add (.mul (.mul (.mul (.c 4) (.pw (.v 1) 2)) (.pw (.v 3) 5)) (.v 4)) (.mul (.mul (.mul (.c 4) (.pw (.v 1) 2)) (.pw (.v 3) 4)) (.pw (.v 4) 2)))))))),.sub (.mul (.add (.mul (.add (.v 3) (.v 2)) (.v 1)) (.mul (.add (.v 3) (.v 2)) (.v 1))) (.v 4)) (.add (.add (.mul (.add (.v 0) (.add (.v 1) (.v 1))) (.add (.v 0) (.add (.v 1) (.v 1)))) (.mul (.add (.v 0) (.add (.v 1) (.v 1))) (.add (.v 0) (.add (.v 1) (.v 1))))) (.mul (.add (.v 0) (.add (.v 1) (.v 1))) (.add (.v 0) (.add (.v 1) (.v 1))))))] ⟨AT.2 r2,AT.2 rs,trivial⟩ (by kernel_rfl))
theorem AGz {F:Type} [CR F] (y2 y3 h m k:F) (ha:(y3-y2)=(m*(h+h))) (hb:(y3+y2)=(k*(h+h))):((int 2)*y2)=((int 2)*((k-m)*h)) :=
 AT.1 (BG [y2,y3,h,m,k] (.sub (.mul (.c 2) (.v 0)) (.mul (.c 2) (.mul (.sub (.v 4) (.v 3)) (.v 2)))) [((.c (-1)),.sub (.sub (.v 1) (.v 0)) (.mul (.v 3) (.add (.v 2) (.v 2)))),
  ((.c 1),.sub (.add (.v 1) (.v 0)) (.mul (.v 4) (.add (.v 2) (.v 2))))] ⟨AT.2 ha,AT.2 hb,trivial⟩ (by kernel_rfl))
theorem AG0 {F:Type} [CR F] (y2 y3 h m k:F) (ha:(y3-y2)=(m*(h+h))) (hb:(y3+y2)=(k*(h+h))):((int 2)*y3)=((int 2)*((k+m)*h)) :=
 AT.1 (BG [y2,y3,h,m,k] (.sub (.mul (.c 2) (.v 1)) (.mul (.c 2) (.mul (.add (.v 4) (.v 3)) (.v 2)))) [((.c 1),.sub (.sub (.v 1) (.v 0)) (.mul (.v 3) (.add (.v 2) (.v 2)))),
  ((.c 1),.sub (.add (.v 1) (.v 0)) (.mul (.v 4) (.add (.v 2) (.v 2))))] ⟨AT.2 ha,AT.2 hb,trivial⟩ (by kernel_rfl))
theorem AG1 {F:Type} [CR F] (d i:F) (h:((int 2)*i)=(int 1)):((d*i)+(d*i))=d :=
 AT.1 (BG [d,i] (.sub (.add (.mul (.v 0) (.v 1)) (.mul (.v 0) (.v 1))) (.v 0)) [((.v 0),.sub (.mul (.c 2) (.v 1)) (.c 1))] ⟨AT.2 h,trivial⟩ (by kernel_rfl))
theorem two_mul {F:Type} [CR F] (y:F) :(y+y)=((int 2)*y) :=
 AT.1 (BG [y] (.sub (.add (.v 0) (.v 0)) (.mul (.c 2) (.v 0))) [] trivial (by kernel_rfl))
theorem AG2 {F:Type} [CR F] (x1 y1 l:F) :y1=((l*x1)+(y1-(l*x1))) :=
 AT.1 (BG [x1,y1,l] (.sub (.v 1) (.add (.mul (.v 2) (.v 0)) (.sub (.v 1) (.mul (.v 2) (.v 0))))) [] trivial (by kernel_rfl))
theorem AG3 {F:Type} [CR F] (x1 y1 x2 y2 l:F) (hl:(l*(x2-x1))=(y2-y1)):y2=((l*x2)+(y1-(l*x1))) :=
 AT.1 (BG [x1,y1,x2,y2,l] (.sub (.v 3) (.add (.mul (.v 4) (.v 2)) (.sub (.v 1) (.mul (.v 4) (.v 0))))) [((.c (-1)),.sub (.mul (.v 4) (.sub (.v 2) (.v 0))) (.sub (.v 3) (.v 1)))] ⟨AT.2 hl,trivial⟩ (by kernel_rfl))
theorem AG4 {F:Type} [CR F] (x1 x2 l:F) :((x1+x2)+(((l*l)-x1)-x2))=(l*l) :=
 AT.1 (BG [x1,x2,l] (.sub (.add (.add (.v 0) (.v 1)) (.sub (.sub (.mul (.v 2) (.v 2)) (.v 0)) (.v 1))) (.mul (.v 2) (.v 2))) [] trivial (by kernel_rfl))
theorem AG5 {F:Type} [CR F] (x y h m k:F) (hm:(((m*y)+(m*y))+((m*m)*((x+(h+h))-x)))=((((x+(h+h))*(x+(h+h)))+((x+(h+h))*x))+(x*x))) (hy:y=((k-m)*h)):(((m*k)*h)+((m*k)*h))=(((x*x)+(x*(x+(h+h))))+((x+(h+h))*(x+(h+h)))) :=
 AT.1 (BG [x,y,h,m,k] (.sub (.add (.mul (.mul (.v 3) (.v 4)) (.v 2)) (.mul (.mul (.v 3) (.v 4)) (.v 2))) (.add (.add (.mul (.v 0) (.v 0)) (.mul (.v 0) (.add (.v 0) (.add (.v 2) (.v 2))))) (.mul (.add (.v 0) (.add (.v 2) (.v 2))) (.add (.v 0) (.add (.v 2) (.v 2)))))) [((.c 1),.sub (.add (.add (.mul (.v 3) (.v 1)) (.mul (.v 3) (.v 1))) (.mul (.mul (.v 3) (.v 3)) (.sub (.add (.v 0) (.add (.v 2) (.v 2))) (.v 0)))) (.add (.add (.mul (.add (.v 0) (.add (.v 2) (.v 2))) (.add (.v 0) (.add (.v 2) (.v 2)))) (.mul (.add (.v 0) (.add (.v 2) (.v 2))) (.v 0))) (.mul (.v 0) (.v 0)))),
  ((.mul (.c (-2)) (.v 3)),.sub (.v 1) (.mul (.sub (.v 4) (.v 3)) (.v 2)))] ⟨AT.2 hm,AT.2 hy,trivial⟩ (by kernel_rfl))
theorem AG6 {F:Type} [CR F] (a b:F) :a=(b+(a-b)) :=
 AT.1 (BG [a,b] (.sub (.v 0) (.add (.v 1) (.sub (.v 0) (.v 1)))) [] trivial (by kernel_rfl))
theorem AG7 {F:Type} [CR F] (a b:F) (h:(a+b)=0):b=(-a) :=
 AT.1 (BG [a,b] (.sub (.v 1) (.neg (.v 0))) [((.c 1),.sub (.add (.v 0) (.v 1)) (.c 0))] ⟨AT.2 h,trivial⟩ (by kernel_rfl))
theorem qF {F:Type} [CR F] (a b:F) (h:(-a)=(-b)):a=b :=
 AT.1 (BG [a,b] (.sub (.v 0) (.v 1)) [((.c (-1)),.sub (.neg (.v 0)) (.neg (.v 1)))] ⟨AT.2 h,trivial⟩ (by kernel_rfl))
theorem Ml {F:Type} [CR F] (x1 x2 x4 l:F) (e1:((x1+x2)+x4)=(l*l)):x4=(((l*l)-x1)-x2) :=
 AT.1 (BG [x1,x2,x4,l] (.sub (.v 2) (.sub (.sub (.mul (.v 3) (.v 3)) (.v 0)) (.v 1))) [((.c 1),.sub (.add (.add (.v 0) (.v 1)) (.v 2)) (.mul (.v 3) (.v 3)))] ⟨AT.2 e1,trivial⟩ (by kernel_rfl))
theorem Mm {F:Type} [CR F] (x2 y2 x4 y4 l n:F) (h2:y2=((l*x2)+n)) (h4:y4=((l*x4)+n)):(-y4)=((l*(x2-x4))-y2) :=
 AT.1 (BG [x2,y2,x4,y4,l,n] (.sub (.neg (.v 3)) (.sub (.mul (.v 4) (.sub (.v 0) (.v 2))) (.v 1))) [((.c 1),.sub (.v 1) (.add (.mul (.v 4) (.v 0)) (.v 5))),
  ((.c (-1)),.sub (.v 3) (.add (.mul (.v 4) (.v 2)) (.v 5)))] ⟨AT.2 h2,AT.2 h4,trivial⟩ (by kernel_rfl))
theorem qG {F:Type} [CR F] (x1 y1 x2 y2 l n:F) (h1:y1=((l*x1)+n)) (h2:y2=((l*x2)+n)):y1=(y2+(l*(x1-x2))) :=
 AT.1 (BG [x1,y1,x2,y2,l,n] (.sub (.v 1) (.add (.v 3) (.mul (.v 4) (.sub (.v 0) (.v 2))))) [((.c 1),.sub (.v 1) (.add (.mul (.v 4) (.v 0)) (.v 5))),
  ((.c (-1)),.sub (.v 3) (.add (.mul (.v 4) (.v 2)) (.v 5)))] ⟨AT.2 h1,AT.2 h2,trivial⟩ (by kernel_rfl))
theorem AG8 {F:Type} [CR F] (x1 x2 x3 k:F) (e:((x1+x2)+x3)=((-k)*(-k))):x1=(((k*k)-x2)-x3) :=
 AT.1 (BG [x1,x2,x3,k] (.sub (.v 0) (.sub (.sub (.mul (.v 3) (.v 3)) (.v 1)) (.v 2))) [((.c 1),.sub (.add (.add (.v 0) (.v 1)) (.v 2)) (.mul (.neg (.v 3)) (.neg (.v 3))))] ⟨AT.2 e,trivial⟩ (by kernel_rfl))
theorem AG9 {F:Type} [CR F] (x1 y1 x2 y2 k n:F) (h1:y1=(((-k)*x1)+n)) (h2:y2=(((-k)*x2)+n)):y1=((k*(x2-x1))+y2) :=
 AT.1 (BG [x1,y1,x2,y2,k,n] (.sub (.v 1) (.add (.mul (.v 4) (.sub (.v 2) (.v 0))) (.v 3))) [((.c 1),.sub (.v 1) (.add (.mul (.neg (.v 4)) (.v 0)) (.v 5))),
  ((.c (-1)),.sub (.v 3) (.add (.mul (.neg (.v 4)) (.v 2)) (.v 5)))] ⟨AT.2 h1,AT.2 h2,trivial⟩ (by kernel_rfl))
theorem AG_ {F:Type} [CR F] (d t n x1 x5:F) (h:(d*t)=n):((d*d)*(((t*t)-x1)-x5))=((n*n)-((d*d)*(x1+x5))) :=
 AT.1 (BG [d,t,n,x1,x5] (.sub (.mul (.mul (.v 0) (.v 0)) (.sub (.sub (.mul (.v 1) (.v 1)) (.v 3)) (.v 4))) (.sub (.mul (.v 2) (.v 2)) (.mul (.mul (.v 0) (.v 0)) (.add (.v 3) (.v 4))))) [((.add (.mul (.v 0) (.v 1)) (.v 2)),.sub (.mul (.v 0) (.v 1)) (.v 2))] ⟨AT.2 h,trivial⟩ (by kernel_rfl))
theorem AG' {F:Type} [CR F] (d t n x1 X y1:F) (h:(d*t)=n):(d*((t*(x1-X))-y1))=((n*(x1-X))-(d*y1)) :=
 AT.1 (BG [d,t,n,x1,X,y1] (.sub (.mul (.v 0) (.sub (.mul (.v 1) (.sub (.v 3) (.v 4))) (.v 5))) (.sub (.mul (.v 2) (.sub (.v 3) (.v 4))) (.mul (.v 0) (.v 5)))) [((.add (.v 3) (.neg (.v 4))),.sub (.mul (.v 0) (.v 1)) (.v 2))] ⟨AT.2 h,trivial⟩ (by kernel_rfl))
theorem AHA {F:Type} [CR F] (y3 y2 d k:F) (h:(d*(-k))=((-y3)-y2)):(y3+y2)=(k*d) :=
 AT.1 (BG [y3,y2,d,k] (.sub (.add (.v 0) (.v 1)) (.mul (.v 3) (.v 2))) [((.c 1),.sub (.mul (.v 2) (.neg (.v 3))) (.sub (.neg (.v 0)) (.v 1)))] ⟨AT.2 h,trivial⟩ (by kernel_rfl))
end Go.Proofs.YtjlcdlekmpjjnaaGreat.Rg
namespace Go.Proofs.YtjlcdlekmpjjnaaGreat.Rg
class FD (F:Type) extends CR F where
 inv:F→F
 mul_inv:∀ a:F,a≠0→a*inv a=1
 inv_zero:inv 0=0
 one_ne:(1:F)≠0
 dec:DecidableEq F
instance fdDec {F:Type} [FD F]:DecidableEq F:=FD.dec
open FD (inv)
inductive Pt (F:Type) where
 | inf
 | pt (x y:F)
section
variable {F:Type} [FD F]
theorem JC {a b c:F} (ha:a≠0) (h:a*b=a*c):b=c:=by
 have h2:inv a*(a*b)=inv a*(a*c):=by rw [h]
 rw [← mul_assoc,← mul_assoc,mul_comm (inv a) a,FD.mul_inv a ha,one_mul,one_mul] at h2
 exact h2
theorem Ui {a b:F} (ha:a≠0) (h:a*b=0):b=0:=JC ha (by rw [h,mul_zero])
theorem EB {a b:F} (ha:a≠0) (hb:b≠0):a*b≠0:=fun h=>hb (Ui ha h)
theorem OM {a b:F} (h:a≠b):a-b≠0:=fun e=>h (AT.1 e)
theorem Uj {d e l:F} (hd:d≠0) (h:d*l=e):e*inv d=l:=by
 rw [← h,mul_comm d l,mul_assoc,FD.mul_inv d hd,mul_one]
theorem qJ {d e:F} (hd:d≠0):e*inv d*d=e:=by
 rw [mul_assoc,mul_comm (inv d),FD.mul_inv d hd,mul_one]
def IC (x1 y1 x2 l:F):Pt F:=.pt (l*l-x1-x2) (l*(x1-(l*l-x1-x2))-y1)
def add:Pt F→Pt F→Pt F
 | .inf,q=>q
 | .pt x1 y1,q=>match q with
  | .inf=>.pt x1 y1
  | .pt x2 y2=>if x1=x2 then (if y1=y2∧y1≠0 then IC x1 y1 x2 ((x1*x1+x1*x1+x1*x1)*inv (y1+y1)) else .inf) else IC x1 y1 x2 ((y2-y1)*inv (x2-x1))
theorem ON (x1 y1 x2 y2:F):add (.pt x1 y1) (.pt x2 y2)=if x1=x2 then (if y1=y2∧y1≠0 then IC x1 y1 x2 ((x1*x1+x1*x1+x1*x1)*inv (y1+y1)) else .inf) else IC x1 y1 x2 ((y2-y1)*inv (x2-x1)):=rfl
def neg:Pt F→Pt F
 | .inf=>.inf
 | .pt x y=>.pt x (-y)
def On (b:F):Pt F→Prop
 | .inf=>True
 | .pt x y=>y*y=x*x*x+b
structure Ln (b x1 y1 x2 y2 x3 y3 l n:F):Prop where
 h1:y1=l*x1+n
 h2:y2=l*x2+n
 h3:y3=l*x3+n
 e1:x1+x2+x3=l*l
 e2:x1*x2+x1*x3+x2*x3+(l*n+l*n)=0
 e3:x1*x2*x3+b=n*n
section
variable {b x1 y1 x2 y2 x3 y3 l n:F}
theorem Ln.sw (h:Ln b x1 y1 x2 y2 x3 y3 l n):Ln b x2 y2 x1 y1 x3 y3 l n:=⟨h.h2,h.h1,h.h3,AGm _ _ _ _ h.e1,AGo _ _ _ _ h.e2,AGq _ _ _ _ _ h.e3⟩
theorem Ln.ro (h:Ln b x1 y1 x2 y2 x3 y3 l n):Ln b x2 y2 x3 y3 x1 y1 l n:=⟨h.h2,h.h3,h.h1,AGn _ _ _ _ h.e1,AGp _ _ _ _ h.e2,AGr _ _ _ _ _ h.e3⟩
theorem Ln.neg (h:Ln b x1 y1 x2 y2 x3 y3 l n):Ln b x1 (-y1) x2 (-y2) x3 (-y3) (-l) (-n) :=
 ⟨Zs _ _ _ _ h.h1,Zs _ _ _ _ h.h2,Zs _ _ _ _ h.h3,by rw [neg_sq];exact h.e1,by rw [AGs];exact h.e2,by rw [neg_sq];exact h.e3⟩
theorem Ln.on (h:Ln b x1 y1 x2 y2 x3 y3 l n):y1*y1=x1*x1*x1+b:=AGj x1 y1 x2 x3 l n b h.h1 h.e1 h.e2 h.e3
end
structure Cv (F:Type) [FD F] where
 b:F
 two:(int 2:F)≠0
 no2:∀ x y:F,y*y=x*x*x+b→y≠0
variable (C:Cv F)
include C in
theorem OO {y:F} (h:y≠0):y+y≠0:=by rw [two_mul];exact EB C.two h
theorem EC {x1 y1 x2 y2 x3 y3 l n:F} (h:Ln C.b x1 y1 x2 y2 x3 y3 l n):add (.pt x1 y1) (.pt x2 y2)=.pt x3 (-y3):=by
 have hy:=C.no2 _ _ h.on
 have hsum:IC x1 y1 x2 l=.pt x3 (-y3):=by
  unfold IC
  rw [AGl x1 x2 x3 l h.e1,AGk x1 y1 x3 y3 l n h.h1 h.h3]
 rw [ON]
 by_cases hx:x1=x2
 ·subst hx
  have e:=Uh _ _ _ _ _ h.h1 h.h2
  have ht:=qB x1 y1 x3 l n h.h1 h.e1 h.e2
  rw [if_pos rfl,if_pos ⟨e,hy⟩,Uj (OO C hy) ht]
  exact hsum
 ·rw [if_neg hx,Uj (OM (Ne.symm hx)) (OL x1 y1 x2 y2 l n h.h1 h.h2)]
  exact hsum
theorem qK {x1 y1 x2 y2 l:F} (c1:y1*y1=x1*x1*x1+C.b) (hl:l*(x2-x1)=y2-y1)
  (e2:x1*x2+x1*(l*l-x1-x2)+x2*(l*l-x1-x2)+(l*(y1-l*x1)+l*(y1-l*x1))=0):Ln C.b x1 y1 x2 y2 (l*l-x1-x2) (l*(l*l-x1-x2)+(y1-l*x1)) l (y1-l*x1) :=
 ⟨AG2 x1 y1 l,AG3 x1 y1 x2 y2 l hl,rfl,AG4 x1 x2 l,e2,AGi x1 y1 x2 l C.b e2 c1⟩
theorem JD {x1 y1 x2 y2:F} (c1:y1*y1=x1*x1*x1+C.b) (c2:y2*y2=x2*x2*x2+C.b):(x2=x1∧y2=-y1)∨∃ x3 y3 l n,Ln C.b x1 y1 x2 y2 x3 y3 l n:=by
 by_cases hx:x1=x2
 ·subst hx
  by_cases hy:y1=y2
  ·subst hy
   have hy0:=C.no2 _ _ c1
   refine .inr ⟨_,_,(x1*x1+x1*x1+x1*x1)*inv (y1+y1),_,qK C c1 (by rw [sub_self,sub_self,mul_zero]) ?_⟩
   refine AGh x1 y1 _ ?_
   rw [mul_comm,qJ (OO C hy0)]
  ·refine .inl ⟨rfl,?_⟩
   have:=AGt y1 y2 _ c1 c2
   exact AG7 y1 y2 (Ui (OM hy) this)
 ·have hd:=OM (Ne.symm hx)
  have hl:(y2-y1)*inv (x2-x1)*(x2-x1)=y2-y1:=qJ hd
  exact .inr ⟨_,_,(y2-y1)*inv (x2-x1),_,qK C c1 hl (Ui hd (AGg x1 y1 x2 y2 _ C.b hl c1 c2))⟩
include C in
theorem Uk {y:F} (hy:y≠0) (h:y=-y):False:=by
 have h2:y+y=0:=by
  have:=Rg.add_neg y
  rw [← h] at this;exact this
 exact OO C hy h2
theorem HU {x y:F} (c:y*y=x*x*x+C.b):add (.pt x y) (.pt x (-y))=.inf:=by
 have hy:=C.no2 _ _ c
 rw [ON,if_pos rfl,if_neg]
 rintro ⟨h,_⟩
 exact Uk C hy h
theorem JE {x y:F} (c:y*y=x*x*x+C.b):(-y)*(-y)=x*x*x+C.b:=by rw [neg_sq];exact c
theorem qL {p q:Pt F} (hp:On C.b p) (hq:On C.b q):On C.b (add p q):=by
 cases p with
 | inf=>exact hq
 | pt x1 y1=>cases q with
  | inf=>exact hp
  | pt x2 y2 =>
   rcases JD C hp hq with ⟨rfl,rfl⟩ | ⟨x3,y3,l,n,h⟩
   ·rw [HU C hp];trivial
   ·rw [EC C h];exact JE C h.ro.ro.on
theorem OP {p q:Pt F} (hp:On C.b p) (hq:On C.b q):add p q=add q p:=by
 cases p with
 | inf=>cases q<;>rfl
 | pt x1 y1=>cases q with
  | inf=>rfl
  | pt x2 y2 =>
   rcases JD C hp hq with ⟨rfl,rfl⟩ | ⟨x3,y3,l,n,h⟩
   ·rw [HU C hp]
    have:=HU C (JE C hp)
    rw [neg_neg] at this
    exact this.symm
   ·rw [EC C h,EC C h.sw]
theorem Ul (p:Pt F):add p .inf=p:=by cases p<;>rfl
theorem Q8 {p q:Pt F} (hp:On C.b p) (hq:On C.b q):add (neg p) (add p q)=q:=by
 cases p with
 | inf=>rfl
 | pt x1 y1=>cases q with
  | inf =>
   have h:=HU C (JE C hp)
   rw [neg_neg] at h
   exact h
  | pt x2 y2 =>
   rcases JD C hp hq with ⟨rfl,rfl⟩ | ⟨x3,y3,l,n,h⟩
   ·rw [HU C hp];rfl
   ·rw [EC C h]
    have:=EC C h.neg.sw.ro
    rw [neg_neg] at this
    exact this
theorem AHB {p q r:Pt F} (hp:On C.b p) (hq:On C.b q) (hr:On C.b r) (h:add p q=add p r):q=r:=by
 rw [← Q8 C hp hq,h,Q8 C hp hr]
theorem qM {x1 y1 x2 y2 x3 y3 l n x5 y5 m q:F} (h1:Ln C.b x1 y1 x2 y2 x3 (-y3) l n) (h2:Ln C.b x2 y2 x3 y3 x5 y5 m q):add (.pt x3 y3) (.pt x3 y3)=add (.pt x1 y1) (.pt x5 (-y5)):=by
 have cP:=h1.on
 have cQ:=h2.on
 have cR:=h2.ro.on
 have hyQ:=C.no2 _ _ cQ
 have hyR:=C.no2 _ _ cR
 have a2:add (.pt x1 y1) (.pt x2 y2)=.pt x3 y3:=by rw [EC C h1,neg_neg]
 have a1:add (.pt x2 y2) (.pt x3 y3)=.pt x5 (-y5):=EC C h2
 rcases JD C cR cR with ⟨_,e⟩ | ⟨x6,y6,s,n6,h6⟩
 ·exact (Uk C hyR e).elim
 rcases JD C cP (JE C h2.ro.ro.on) with ⟨e1,e2⟩ | ⟨x7,y7,t,n7,h7⟩
 ·exfalso
  have e2:=qF _ _ e2
  subst e1;subst e2
  have a3:=EC C h2.ro.ro
  rw [a2] at a3
  injection a3 with _ a3
  exact Uk C hyR a3
 rw [EC C h6,EC C h7]
 have ht:(x5-x1)*t=-y5-y1:=OL x1 y1 x5 (-y5) t n7 h7.h1 h7.h2
 have hs:(y3+y3)*s=x3*x3+x3*x3+x3*x3:=qB x3 y3 x6 s n6 h6.h1 h6.e1 h6.e2
 have hd:x5≠x1:=by
  intro e
  subst e
  have e3:=Uh _ _ _ _ _ h7.h1 h7.h2
  rw [← e3] at a1
  have a4:add (neg (.pt x2 y2)) (.pt x3 y3)=.pt x5 y1:=by
   rw [← a2,OP C (p:=.pt x5 y1) (q:=.pt x2 y2) cP cQ]
   exact Q8 C (p:=.pt x2 y2) (q:=.pt x5 y1) cQ cP
  have a5:add (.pt x3 y3) (.pt x2 y2)=add (.pt x3 y3) (neg (.pt x2 y2)):=by
   rw [OP C (p:=.pt x3 y3) (q:=.pt x2 y2) cR cQ,OP C (p:=.pt x3 y3) (q:=neg (.pt x2 y2)) cR (JE C cQ),a1,a4]
  have a6:=AHB C (p:=.pt x3 y3) (q:=.pt x2 y2) (r:=neg (.pt x2 y2)) cR cQ (JE C cQ) a5
  injection a6 with _ a6
  exact Uk C hyQ a6
 have hi:(int 2:F)*inv (int 2)=int 1:=by rw [FD.mul_inv _ C.two,Q3]
 obtain ⟨h,hh⟩:∃ h:F,h+h=x3-x2:=⟨(x3-x2)*inv (int 2),AG1 _ _ hi⟩
 obtain ⟨k,rfl⟩:∃ k:F,l=-k:=⟨-l,(neg_neg l).symm⟩
 have ex3:x3=x2+(h+h):=by rw [hh];exact AG6 _ _
 have hm:y3-y2=m*(h+h):=by
  have:=OL x2 y2 x3 y3 m q h2.h1 h2.h2
  rw [hh,mul_comm];exact this.symm
 have hk:y3+y2=k*(h+h):=by
  have:=OL x2 y2 x3 (-y3) (-k) n h1.h2 h1.h3
  rw [hh];exact AHA _ _ _ _ this
 have ey2:y2=(k-m)*h:=JC C.two (AGz y2 y3 h m k hm hk)
 have ey3:y3=(k+m)*h:=JC C.two (AG0 y2 y3 h m k hm hk)
 have ex1:x1=k*k-x2-x3:=AG8 x1 x2 x3 k h1.e1
 have ey1:y1=k*(x2-x1)+y2:=AG9 x1 y1 x2 y2 k n h1.h1 h1.h2
 have ex5:x5=m*m-x2-x3:=Ml x2 x3 x5 m h2.e1
 have ey5:-y5=m*(x2-x5)-y2:=Mm x2 y2 x5 y5 m q h2.h1 h2.h3
 have r2:=AG5 x2 y2 h m k (by rw [← ex3];exact qC x2 y2 x3 x5 m q h2.h1 h2.e1 h2.e2) ey2
 have rs:((k+m)*h+(k+m)*h)*s=(x2+(h+h))*(x2+(h+h))+(x2+(h+h))*(x2+(h+h))+(x2+(h+h))*(x2+(h+h)):=by rw [← ey3,← ex3];exact hs
 have hX:=spX x2 h m k s r2 rs
 have hY:=spY x2 h m k s r2 rs
 rw [← ex3,← ex1,← ex5,← ey2,← ey3,← ey5,← ey1] at hX hY
 have hw:=OO C hyR
 have hD:=OM hd
 have x6e:x6=s*s-x3-x3:=Ml x3 x3 x6 s h6.e1
 have x7e:x7=t*t-x1-x5:=Ml x1 x5 x7 t h7.e1
 have hXX:x6=x7:=by
  rw [x6e,x7e]
  refine JC (EB hD hD) ?_
  rw [AG_ _ _ _ x1 x5 ht]
  exact JC (EB hw hw) hX
 have y6e:-y6=s*(x3-x6)-y3:=Mm x3 y3 x6 y6 s n6 h6.h1 h6.h3
 have y7e:-y7=t*(x1-x7)-y1:=Mm x1 y1 x7 y7 t n7 h7.h1 h7.h3
 have hYY:-y6=-y7:=by
  rw [y6e,y7e,← hXX]
  refine JC hD ?_
  rw [AG' _ _ _ x1 x6 y1 ht]
  rw [← x6e] at hY
  exact JC (EB (EB hw hw) hw) hY
 rw [hXX,hYY]
theorem AHC {x1 y1 x2 y2 x3 y3 x4 y4 x5 y5 x6 y6 x7 y7 l n m q s n6 t n7:F} (h1:Ln C.b x1 y1 x2 y2 x4 y4 l n) (h2:Ln C.b x2 y2 x3 y3 x5 y5 m q) (h3:Ln C.b x4 (-y4) x3 y3 x6 y6 s n6) (h4:Ln C.b x1 y1 x5 (-y5) x7 y7 t n7)
  (hd1:x4≠x3) (hd2:x5≠x1):x6=x7∧-y6=-y7:=by
 have ex4:x4=l*l-x1-x2:=Ml x1 x2 x4 l h1.e1
 have ey4:-y4=l*(x2-x4)-y2:=Mm x2 y2 x4 y4 l n h1.h2 h1.h3
 have ex5:x5=m*m-x2-x3:=Ml x2 x3 x5 m h2.e1
 have ey5:-y5=m*(x2-x5)-y2:=Mm x2 y2 x5 y5 m q h2.h1 h2.h3
 have ey3:y3=y2+m*(x3-x2):=qG x3 y3 x2 y2 m q h2.h2 h2.h1
 have ey1:y1=y2+l*(x1-x2):=qG x1 y1 x2 y2 l n h1.h1 h1.h2
 have hs:s*(x4-x3)=-y4-y3:=by rw [mul_comm];exact OL x3 y3 x4 (-y4) s n6 h3.h2 h3.h1
 have ht:t*(x5-x1)=-y5-y1:=by rw [mul_comm];exact OL x1 y1 x5 (-y5) t n7 h4.h1 h4.h2
 have r1:=AGu x1 x2 y2 x4 l n h1.h2 h1.e1 h1.e2
 have r2:=qC x2 y2 x3 x5 m q h2.h1 h2.e1 h2.e2
 have hs':s*(l*l-x1-x2-x3)=l*(x2-(l*l-x1-x2))-y2-(y2+m*(x3-x2)):=by rw [← ex4,← ey4,← ey3];exact hs
 have ht':t*(m*m-x2-x3-x1)=m*(x2-(m*m-x2-x3))-y2-(y2+l*(x1-x2)):=by rw [← ex5,← ey5,← ey1];exact ht
 have hX:=AGv x1 x2 x3 y2 l m s t r1 r2 hs' ht'
 have hY:=AGw x1 x2 x3 y2 l m s t r1 r2 hs' ht'
 rw [← ex4,← ex5] at hX hY
 rw [← ey3,← ey1] at hY
 have hD1:=OM hd1
 have hD2:=OM hd2
 have x6e:x6=s*s-x4-x3:=Ml x4 x3 x6 s h3.e1
 have x7e:x7=t*t-x1-x5:=Ml x1 x5 x7 t h4.e1
 have hXX:x6=x7:=by rw [x6e,x7e];exact JC (EB (EB hD1 hD1) (EB hD2 hD2)) hX
 have y6e:-y6=s*(x3-x6)-y3:=Mm x3 y3 x6 y6 s n6 h3.h2 h3.h3
 have y7e:-y7=t*(x1-x7)-y1:=Mm x1 y1 x7 y7 t n7 h4.h1 h4.h3
 refine ⟨hXX,?_⟩
 rw [y6e,y7e,← hXX]
 rw [← x6e] at hY
 exact JC (EB (EB (EB hD1 hD1) hD1) hD2) hY
theorem AHD {p q r:Pt F} (hp:On C.b p) (hq:On C.b q) (hr:On C.b r):add (add p q) r=add p (add q r):=by
 cases p with
 | inf=>rfl
 | pt x1 y1=>cases q with
  | inf=>rfl
  | pt x2 y2=>cases r with
   | inf=>rw [Ul,Ul]
   | pt x3 y3 =>
    rcases JD C hp hq with ⟨rfl,rfl⟩ | ⟨x4,y4,l,n,h1⟩
    ·rw [HU C hp]
     have hn:On C.b (.pt x2 (-y1)):=hq
     have:=Q8 C (p:=.pt x2 (-y1)) (q:=.pt x3 y3) hn hr
     rw [show neg (.pt x2 (-y1):Pt F)=.pt x2 y1 by simp [neg,neg_neg]] at this
     exact this.symm
    rcases JD C hq hr with ⟨rfl,rfl⟩ | ⟨x5,y5,m,q,h2⟩
    ·rw [HU C hq,Ul,OP C (qL C hp hq) hr,OP C hp hq]
     exact Q8 C (p:=.pt x3 y2) (q:=.pt x1 y1) hq hp
    rw [EC C h1,EC C h2]
    have c4:=JE C h1.ro.ro.on
    have c5:=JE C h2.ro.ro.on
    rcases JD C c4 hr with ⟨e1,e2⟩ | ⟨x6,y6,s,n6,h3⟩
    ·
     rw [neg_neg] at e2
     subst e1;subst e2
     have a:=EC C h1.ro
     rw [EC C h2] at a
     rw [a,HU C hp]
     have:=HU C c4
     rw [neg_neg] at this
     exact this
    rcases JD C hp c5 with ⟨e1,e2⟩ | ⟨x7,y7,t,n7,h4⟩
    ·have e2:=qF _ _ e2
     subst e1;subst e2
     have a:=EC C h2.ro.ro
     rw [EC C h1] at a
     rw [a,HU C hp]
     have:=HU C (JE C hr)
     rw [neg_neg] at this
     exact this
    by_cases hd1:x4=x3
    ·have e3:=Uh _ _ _ _ _ (hd1▸h3.h1) h3.h2
     subst hd1
     rw [e3]
     have h1':Ln C.b x1 y1 x2 y2 x4 (-y3) l n:=by rw [← e3,neg_neg];exact h1
     exact qM C h1' h2
    by_cases hd2:x5=x1
    ·have e3:=Uh _ _ _ _ _ h4.h1 (hd2▸h4.h2)
     subst hd2
     rw [← e3]
     have h2':Ln C.b x3 y3 x2 y2 x5 (-y1) m q:=by rw [e3,neg_neg];exact h2.sw
     have:=qM C h2' h1.sw
     rw [this]
     exact OP C (p:=.pt x4 (-y4)) (q:=.pt x3 y3) c4 hr
    obtain ⟨e1,e2⟩:=AHC C h1 h2 h3 h4 hd1 hd2
    rw [EC C h3,EC C h4,e1,e2]
def A6:Nat→Pt F→Pt F
 | 0,_=>.inf
 | n+1,p=>add (A6 n p) p
theorem Gz {p:Pt F} (hp:On C.b p):∀ n,On C.b (A6 n p)
 | 0=>trivial
 | n+1=>qL C (Gz hp n) hp
theorem OQ {p:Pt F} (hp:On C.b p) (m:Nat):∀ n,A6 (m+n) p=add (A6 m p) (A6 n p)
 | 0=>(Ul _).symm
 | n+1=>by
  rw [← Nat.add_assoc]
  simp only [A6]
  rw [OQ hp m n,AHD C (Gz C hp m) (Gz C hp n) hp]
theorem Zt {p:Pt F} (hp:On C.b p) (m:Nat):∀ n,A6 (m*n) p=A6 n (A6 m p)
 | 0=>rfl
 | n+1=>by
  rw [Nat.mul_succ,OQ C hp,Zt hp m n];rfl
theorem Q9:∀ n,A6 n (.inf:Pt F)=.inf
 | 0=>rfl
 | n+1=>by simp only [A6];rw [Q9 n];rfl
end
end Go.Proofs.YtjlcdlekmpjjnaaGreat.Rg
namespace Go.Proofs.YtjlcdlekmpjjnaaGreat.Rg
set_option maxRecDepth 100000
set_option maxHeartbeats 4000000
theorem AHE {F:Type} [CR F] (x y i I:F) (hi:i=((y+y)*I)):(((y*((i*i)*i))+(y*((i*i)*i)))*((((x*x)+(x*x))+(x*x))*I))=((((x*(i*i))*(x*(i*i)))+((x*(i*i))*(x*(i*i))))+((x*(i*i))*(x*(i*i)))) :=
 AT.1 (BG [x,y,i,I] (.sub (.mul (.add (.mul (.v 1) (.mul (.mul (.v 2) (.v 2)) (.v 2))) (.mul (.v 1) (.mul (.mul (.v 2) (.v 2)) (.v 2)))) (.mul (.add (.add (.mul (.v 0) (.v 0)) (.mul (.v 0) (.v 0))) (.mul (.v 0) (.v 0))) (.v 3))) (.add (.add (.mul (.mul (.v 0) (.mul (.v 2) (.v 2))) (.mul (.v 0) (.mul (.v 2) (.v 2)))) (.mul (.mul (.v 0) (.mul (.v 2) (.v 2))) (.mul (.v 0) (.mul (.v 2) (.v 2))))) (.mul (.mul (.v 0) (.mul (.v 2) (.v 2))) (.mul (.v 0) (.mul (.v 2) (.v 2)))))) [((.mul (.mul (.c (-3)) (.pw (.v 2) 3)) (.pw (.v 0) 2)),.sub (.v 2) (.mul (.add (.v 1) (.v 1)) (.v 3)))] ⟨AT.2 hi,trivial⟩ (by kernel_rfl))
theorem qN {F:Type} [CR F] (x y i I:F) (hi:i=((y+y)*I)):(((((((x*x)+(x*x))+(x*x))*I)*((((x*x)+(x*x))+(x*x))*I))-(x*(i*i)))-(x*(i*i)))=((((((x*x)+(x*x))+(x*x))*(((x*x)+(x*x))+(x*x)))-((((x*(y*y))+(x*(y*y)))+((x*(y*y))+(x*(y*y))))+(((x*(y*y))+(x*(y*y)))+((x*(y*y))+(x*(y*y))))))*(I*I)) :=
 AT.1 (BG [x,y,i,I] (.sub (.sub (.sub (.mul (.mul (.add (.add (.mul (.v 0) (.v 0)) (.mul (.v 0) (.v 0))) (.mul (.v 0) (.v 0))) (.v 3)) (.mul (.add (.add (.mul (.v 0) (.v 0)) (.mul (.v 0) (.v 0))) (.mul (.v 0) (.v 0))) (.v 3))) (.mul (.v 0) (.mul (.v 2) (.v 2)))) (.mul (.v 0) (.mul (.v 2) (.v 2)))) (.mul (.sub (.mul (.add (.add (.mul (.v 0) (.v 0)) (.mul (.v 0) (.v 0))) (.mul (.v 0) (.v 0))) (.add (.add (.mul (.v 0) (.v 0)) (.mul (.v 0) (.v 0))) (.mul (.v 0) (.v 0)))) (.add (.add (.add (.mul (.v 0) (.mul (.v 1) (.v 1))) (.mul (.v 0) (.mul (.v 1) (.v 1)))) (.add (.mul (.v 0) (.mul (.v 1) (.v 1))) (.mul (.v 0) (.mul (.v 1) (.v 1))))) (.add (.add (.mul (.v 0) (.mul (.v 1) (.v 1))) (.mul (.v 0) (.mul (.v 1) (.v 1)))) (.add (.mul (.v 0) (.mul (.v 1) (.v 1))) (.mul (.v 0) (.mul (.v 1) (.v 1))))))) (.mul (.v 3) (.v 3)))) [((.add (.mul (.mul (.c (-2)) (.v 2)) (.v 0)) (.mul (.mul (.mul (.c (-4)) (.v 0)) (.v 1)) (.v 3))),.sub (.v 2) (.mul (.add (.v 1) (.v 1)) (.v 3)))] ⟨AT.2 hi,trivial⟩ (by kernel_rfl))
theorem AHF {F:Type} [CR F] (x y i I:F) (hi:i=((y+y)*I)):((((((x*x)+(x*x))+(x*x))*I)*((x*(i*i))-(((((((x*x)+(x*x))+(x*x))*I)*((((x*x)+(x*x))+(x*x))*I))-(x*(i*i)))-(x*(i*i)))))-(y*((i*i)*i)))=((((((x*x)+(x*x))+(x*x))*((((x*(y*y))+(x*(y*y)))+((x*(y*y))+(x*(y*y))))-(((((x*x)+(x*x))+(x*x))*(((x*x)+(x*x))+(x*x)))-((((x*(y*y))+(x*(y*y)))+((x*(y*y))+(x*(y*y))))+(((x*(y*y))+(x*(y*y)))+((x*(y*y))+(x*(y*y))))))))-(((((y*y)*(y*y))+((y*y)*(y*y)))+(((y*y)*(y*y))+((y*y)*(y*y))))+((((y*y)*(y*y))+((y*y)*(y*y)))+(((y*y)*(y*y))+((y*y)*(y*y))))))*((I*I)*I)) :=
 AT.1 (BG [x,y,i,I] (.sub (.sub (.mul (.mul (.add (.add (.mul (.v 0) (.v 0)) (.mul (.v 0) (.v 0))) (.mul (.v 0) (.v 0))) (.v 3)) (.sub (.mul (.v 0) (.mul (.v 2) (.v 2))) (.sub (.sub (.mul (.mul (.add (.add (.mul (.v 0) (.v 0)) (.mul (.v 0) (.v 0))) (.mul (.v 0) (.v 0))) (.v 3)) (.mul (.add (.add (.mul (.v 0) (.v 0)) (.mul (.v 0) (.v 0))) (.mul (.v 0) (.v 0))) (.v 3))) (.mul (.v 0) (.mul (.v 2) (.v 2)))) (.mul (.v 0) (.mul (.v 2) (.v 2)))))) (.mul (.v 1) (.mul (.mul (.v 2) (.v 2)) (.v 2)))) (.mul (.sub (.mul (.add (.add (.mul (.v 0) (.v 0)) (.mul (.v 0) (.v 0))) (.mul (.v 0) (.v 0))) (.sub (.add (.add (.mul (.v 0) (.mul (.v 1) (.v 1))) (.mul (.v 0) (.mul (.v 1) (.v 1)))) (.add (.mul (.v 0) (.mul (.v 1) (.v 1))) (.mul (.v 0) (.mul (.v 1) (.v 1))))) (.sub (.mul (.add (.add (.mul (.v 0) (.v 0)) (.mul (.v 0) (.v 0))) (.mul (.v 0) (.v 0))) (.add (.add (.mul (.v 0) (.v 0)) (.mul (.v 0) (.v 0))) (.mul (.v 0) (.v 0)))) (.add (.add (.add (.mul (.v 0) (.mul (.v 1) (.v 1))) (.mul (.v 0) (.mul (.v 1) (.v 1)))) (.add (.mul (.v 0) (.mul (.v 1) (.v 1))) (.mul (.v 0) (.mul (.v 1) (.v 1))))) (.add (.add (.mul (.v 0) (.mul (.v 1) (.v 1))) (.mul (.v 0) (.mul (.v 1) (.v 1)))) (.add (.mul (.v 0) (.mul (.v 1) (.v 1))) (.mul (.v 0) (.mul (.v 1) (.v 1))))))))) (.add (.add (.add (.mul (.mul (.v 1) (.v 1)) (.mul (.v 1) (.v 1))) (.mul (.mul (.v 1) (.v 1)) (.mul (.v 1) (.v 1)))) (.add (.mul (.mul (.v 1) (.v 1)) (.mul (.v 1) (.v 1))) (.mul (.mul (.v 1) (.v 1)) (.mul (.v 1) (.v 1))))) (.add (.add (.mul (.mul (.v 1) (.v 1)) (.mul (.v 1) (.v 1))) (.mul (.mul (.v 1) (.v 1)) (.mul (.v 1) (.v 1)))) (.add (.mul (.mul (.v 1) (.v 1)) (.mul (.v 1) (.v 1))) (.mul (.mul (.v 1) (.v 1)) (.mul (.v 1) (.v 1))))))) (.mul (.mul (.v 3) (.v 3)) (.v 3)))) [((.add (.add (.neg (.mul (.pw (.v 2) 2) (.v 1))) (.mul (.mul (.mul (.c 9) (.v 2)) (.pw (.v 0) 3)) (.v 3))) (.add (.mul (.mul (.mul (.c (-2)) (.v 2)) (.pw (.v 1) 2)) (.v 3)) (.add (.mul (.mul (.mul (.c 18) (.pw (.v 0) 3)) (.v 1)) (.pw (.v 3) 2)) (.mul (.mul (.c (-4)) (.pw (.v 1) 3)) (.pw (.v 3) 2))))),.sub (.v 2) (.mul (.add (.v 1) (.v 1)) (.v 3)))] ⟨AT.2 hi,trivial⟩ (by kernel_rfl))
theorem AHG {F:Type} [CR F] (y z i I:F) (hz:(z*i)=(int 1)) (hZ:(((y*z)+(y*z))*I)=(int 1)):i=((y+y)*I) :=
 AT.1 (BG [y,z,i,I] (.sub (.v 2) (.mul (.add (.v 0) (.v 0)) (.v 3))) [((.mul (.mul (.c 2) (.v 0)) (.v 3)),.sub (.mul (.v 1) (.v 2)) (.c 1)),
  ((.neg (.v 2)),.sub (.mul (.add (.mul (.v 0) (.v 1)) (.mul (.v 0) (.v 1))) (.v 3)) (.c 1))] ⟨AT.2 hz,AT.2 hZ,trivial⟩ (by kernel_rfl))
theorem AHH {F:Type} [CR F] (x a z i:F) (hz:(z*i)=(int 1)):(((a*(z*z))-x)*(i*i))=(a-(x*(i*i))) :=
 AT.1 (BG [x,a,z,i] (.sub (.mul (.sub (.mul (.v 1) (.mul (.v 2) (.v 2))) (.v 0)) (.mul (.v 3) (.v 3))) (.sub (.v 1) (.mul (.v 0) (.mul (.v 3) (.v 3))))) [((.add (.mul (.mul (.v 1) (.v 2)) (.v 3)) (.v 1)),.sub (.mul (.v 2) (.v 3)) (.c 1))] ⟨AT.2 hz,trivial⟩ (by kernel_rfl))
theorem AHI {F:Type} [CR F] (y b z i:F) (hz:(z*i)=(int 1)):(((b*((z*z)*z))-y)*((i*i)*i))=(b-(y*((i*i)*i))) :=
 AT.1 (BG [y,b,z,i] (.sub (.mul (.sub (.mul (.v 1) (.mul (.mul (.v 2) (.v 2)) (.v 2))) (.v 0)) (.mul (.mul (.v 3) (.v 3)) (.v 3))) (.sub (.v 1) (.mul (.v 0) (.mul (.mul (.v 3) (.v 3)) (.v 3))))) [((.add (.mul (.mul (.v 1) (.pw (.v 2) 2)) (.pw (.v 3) 2)) (.add (.mul (.mul (.v 1) (.v 2)) (.v 3)) (.v 1))),.sub (.mul (.v 2) (.v 3)) (.c 1))] ⟨AT.2 hz,trivial⟩ (by kernel_rfl))
theorem AHJ {F:Type} [CR F] (z h i I:F) (hz:(z*i)=(int 1)) (hZ:((z*h)*I)=(int 1)):i=(h*I) :=
 AT.1 (BG [z,h,i,I] (.sub (.v 2) (.mul (.v 1) (.v 3))) [((.mul (.v 1) (.v 3)),.sub (.mul (.v 0) (.v 2)) (.c 1)),
  ((.neg (.v 2)),.sub (.mul (.mul (.v 0) (.v 1)) (.v 3)) (.c 1))] ⟨AT.2 hz,AT.2 hZ,trivial⟩ (by kernel_rfl))
theorem AHK {F:Type} [CR F] (x y a b i I h r:F) (hi:i=(h*I)) (hh:(h*(i*i))=(a-(x*(i*i)))) (hr:(r*((i*i)*i))=(b-(y*((i*i)*i)))):((a-(x*(i*i)))*(r*I))=(b-(y*((i*i)*i))) :=
 AT.1 (BG [x,y,a,b,i,I,h,r] (.sub (.mul (.sub (.v 2) (.mul (.v 0) (.mul (.v 4) (.v 4)))) (.mul (.v 7) (.v 5))) (.sub (.v 3) (.mul (.v 1) (.mul (.mul (.v 4) (.v 4)) (.v 4))))) [((.neg (.mul (.pw (.v 4) 2) (.v 7))),.sub (.v 4) (.mul (.v 6) (.v 5))),
  ((.neg (.mul (.v 5) (.v 7))),.sub (.mul (.v 6) (.mul (.v 4) (.v 4))) (.sub (.v 2) (.mul (.v 0) (.mul (.v 4) (.v 4))))),
  ((.c 1),.sub (.mul (.v 7) (.mul (.mul (.v 4) (.v 4)) (.v 4))) (.sub (.v 3) (.mul (.v 1) (.mul (.mul (.v 4) (.v 4)) (.v 4)))))] ⟨AT.2 hi,AT.2 hh,AT.2 hr,trivial⟩ (by kernel_rfl))
theorem AHL {F:Type} [CR F] (x y a i I h r:F) (hi:i=(h*I)) (hh:(h*(i*i))=(a-(x*(i*i)))):((((r*I)*(r*I))-(x*(i*i)))-a)=((((r*r)-((h*h)*h))-((x*(h*h))+(x*(h*h))))*(I*I)) :=
 AT.1 (BG [x,y,a,i,I,h,r] (.sub (.sub (.sub (.mul (.mul (.v 6) (.v 4)) (.mul (.v 6) (.v 4))) (.mul (.v 0) (.mul (.v 3) (.v 3)))) (.v 2)) (.mul (.sub (.sub (.mul (.v 6) (.v 6)) (.mul (.mul (.v 5) (.v 5)) (.v 5))) (.add (.mul (.v 0) (.mul (.v 5) (.v 5))) (.mul (.v 0) (.mul (.v 5) (.v 5))))) (.mul (.v 4) (.v 4)))) [((.add (.add (.mul (.mul (.c (-2)) (.v 0)) (.v 3)) (.mul (.mul (.mul (.c (-2)) (.v 0)) (.v 4)) (.v 5))) (.add (.neg (.mul (.v 3) (.v 5))) (.neg (.mul (.v 4) (.pw (.v 5) 2))))),.sub (.v 3) (.mul (.v 5) (.v 4))),
  ((.c 1),.sub (.mul (.v 5) (.mul (.v 3) (.v 3))) (.sub (.v 2) (.mul (.v 0) (.mul (.v 3) (.v 3)))))] ⟨AT.2 hi,AT.2 hh,trivial⟩ (by kernel_rfl))
theorem AHM {F:Type} [CR F] (x y a i I h r:F) (hi:i=(h*I)) (hh:(h*(i*i))=(a-(x*(i*i)))):(((r*I)*((x*(i*i))-((((r*I)*(r*I))-(x*(i*i)))-a)))-(y*((i*i)*i)))=(((r*((x*(h*h))-(((r*r)-((h*h)*h))-((x*(h*h))+(x*(h*h))))))-(y*((h*h)*h)))*((I*I)*I)) :=
 AT.1 (BG [x,y,a,i,I,h,r] (.sub (.sub (.mul (.mul (.v 6) (.v 4)) (.sub (.mul (.v 0) (.mul (.v 3) (.v 3))) (.sub (.sub (.mul (.mul (.v 6) (.v 4)) (.mul (.v 6) (.v 4))) (.mul (.v 0) (.mul (.v 3) (.v 3)))) (.v 2)))) (.mul (.v 1) (.mul (.mul (.v 3) (.v 3)) (.v 3)))) (.mul (.sub (.mul (.v 6) (.sub (.mul (.v 0) (.mul (.v 5) (.v 5))) (.sub (.sub (.mul (.v 6) (.v 6)) (.mul (.mul (.v 5) (.v 5)) (.v 5))) (.add (.mul (.v 0) (.mul (.v 5) (.v 5))) (.mul (.v 0) (.mul (.v 5) (.v 5))))))) (.mul (.v 1) (.mul (.mul (.v 5) (.v 5)) (.v 5)))) (.mul (.mul (.v 4) (.v 4)) (.v 4)))) [((.add (.add (.mul (.mul (.mul (.mul (.c 3) (.v 0)) (.v 3)) (.v 4)) (.v 6)) (.add (.mul (.mul (.mul (.mul (.c 3) (.v 0)) (.pw (.v 4) 2)) (.v 5)) (.v 6)) (.neg (.mul (.v 1) (.pw (.v 3) 2))))) (.add (.add (.neg (.mul (.mul (.mul (.v 1) (.v 3)) (.v 4)) (.v 5))) (.neg (.mul (.mul (.v 1) (.pw (.v 4) 2)) (.pw (.v 5) 2)))) (.add (.mul (.mul (.mul (.v 3) (.v 4)) (.v 5)) (.v 6)) (.mul (.mul (.pw (.v 4) 2) (.pw (.v 5) 2)) (.v 6))))),.sub (.v 3) (.mul (.v 5) (.v 4))),
  ((.neg (.mul (.v 4) (.v 6))),.sub (.mul (.v 5) (.mul (.v 3) (.v 3))) (.sub (.v 2) (.mul (.v 0) (.mul (.v 3) (.v 3)))))] ⟨AT.2 hi,AT.2 hh,trivial⟩ (by kernel_rfl))
end Go.Proofs.YtjlcdlekmpjjnaaGreat.Rg
namespace Go.Proofs.YtjlcdlekmpjjnaaGreat.Rg
open FD (inv)
structure J (F:Type) where
 x:F
 y:F
 z:F
section
variable {F:Type} [FD F]
def CT (j:J F):Pt F:=if j.z=0 then .inf else .pt (j.x*(inv j.z*inv j.z)) (j.y*((inv j.z*inv j.z)*inv j.z))
def jE (x:F):F:=x*x+x*x+x*x
def jD (x y:F):F:=x*(y*y)+x*(y*y)+(x*(y*y)+x*(y*y))
def jC2 (y:F):F:=(y*y)*(y*y)+(y*y)*(y*y)
def Um (y:F):F:=jC2 y+jC2 y
def Q_ (y:F):F:=Um y+Um y
def jX (x y:F):F:=jE x*jE x-(jD x y+jD x y)
def Bq (j:J F):J F:=⟨jX j.x j.y,jE j.x*(jD j.x j.y-jX j.x j.y)-Q_ j.y,j.y*j.z+j.y*j.z⟩
def pX (x h r:F):F:=r*r-(h*h)*h-(x*(h*h)+x*(h*h))
def pY (x y h r:F):F:=r*(x*(h*h)-pX x h r)-y*((h*h)*h)
def pH (j:J F) (a:F):F:=a*(j.z*j.z)-j.x
def pR (j:J F) (b:F):F:=b*((j.z*j.z)*j.z)-j.y
def FG (j:J F) (a b:F):J F :=
 if j.z=0 then ⟨a,b,1⟩ else if pH j a=0 then (if pR j b=0 then Bq j else ⟨0,0,0⟩)
 else ⟨pX j.x (pH j a) (pR j b),pY j.x j.y (pH j a) (pR j b),j.z*pH j a⟩
theorem OR {z:F} (h:z≠0):z*inv z=int 1:=by rw [FD.mul_inv z h,Q3]
theorem ID {j:J F} (h:j.z≠0):CT j=.pt (j.x*(inv j.z*inv j.z)) (j.y*((inv j.z*inv j.z)*inv j.z)):=if_neg h
theorem G0 {j:J F} (h:j.z=0):CT j=.inf:=if_pos h
theorem AHN:inv (1:F)=1:=by have:=FD.mul_inv (1:F) FD.one_ne;rwa [one_mul] at this
theorem AHO {z:F} (h:z≠0):inv z≠0:=fun e=>by
 have:=FD.mul_inv z h
 rw [e,mul_zero] at this
 exact FD.one_ne this.symm
variable (C:Cv F)
theorem Q' {j:J F} (hp:On C.b (CT j)):CT (Bq j)=add (CT j) (CT j):=by
 by_cases hz:j.z=0
 ·have h2:(Bq j).z=0:=by show j.y*j.z+j.y*j.z=0;rw [hz,mul_zero,zero_add]
  rw [G0 h2,G0 hz];rfl
 ·rw [ID hz] at hp ⊢
  have hY:=C.no2 _ _ hp
  have hy:j.y≠0:=fun e=>hY (by rw [e,zero_mul])
  have hZ:j.y*j.z+j.y*j.z≠0:=OO C (EB hy hz)
  have hi:=AHG j.y j.z (inv j.z) (inv (j.y*j.z+j.y*j.z)) (OR hz) (OR hZ)
  rw [ID (j:=Bq j) hZ,ON,if_pos rfl,if_pos ⟨rfl,hY⟩,Uj (OO C hY) (AHE j.x j.y _ _ hi)]
  unfold IC
  rw [qN j.x j.y _ _ hi]
  have h2:=AHF j.x j.y _ _ hi
  rw [qN j.x j.y _ _ hi] at h2
  rw [h2];rfl
theorem Un {j:J F} {a b:F} (hp:On C.b (CT j)):CT (FG j a b)=add (CT j) (.pt a b):=by
 unfold FG
 by_cases hz:j.z=0
 ·rw [if_pos hz,G0 hz,ID (j:=⟨a,b,1⟩) FD.one_ne]
  show Pt.pt (a*(inv 1*inv 1)) (b*((inv 1*inv 1)*inv 1))=.pt a b
  rw [AHN,one_mul,one_mul,mul_one,mul_one]
 ·rw [if_neg hz]
  have eh:pH j a*(inv j.z*inv j.z)=a-j.x*(inv j.z*inv j.z):=AHH j.x a j.z _ (OR hz)
  have er:pR j b*((inv j.z*inv j.z)*inv j.z)=b-j.y*((inv j.z*inv j.z)*inv j.z):=AHI j.y b j.z _ (OR hz)
  have hi:=AHO hz
  by_cases hh:pH j a=0
  ·have ea:a=j.x*(inv j.z*inv j.z):=AT.1 (by rw [← eh,hh,zero_mul])
   rw [if_pos hh]
   by_cases hr:pR j b=0
   ·have eb:b=j.y*((inv j.z*inv j.z)*inv j.z):=AT.1 (by rw [← er,hr,zero_mul])
    rw [if_pos hr,Q' C hp]
    conv=>rhs;rw [ea,eb]
    rw [ID hz]
   ·rw [if_neg hr,G0 (j:=⟨0,0,0⟩) rfl,ID hz,ON,if_pos ea.symm,if_neg]
    rintro ⟨e,_⟩
    have:b-j.y*((inv j.z*inv j.z)*inv j.z)=0:=AT.2 e.symm
    rw [← er] at this
    exact EB hr (EB (EB hi hi) hi) this
  ·rw [if_neg hh]
   have hax:a-j.x*(inv j.z*inv j.z)≠0:=by rw [← eh];exact EB hh (EB hi hi)
   have hZ:j.z*pH j a≠0:=EB hz hh
   have hI:=AHJ j.z (pH j a) (inv j.z) (inv (j.z*pH j a)) (OR hz) (OR hZ)
   have hl:=AHK j.x j.y a b _ _ _ _ hI eh er
   rw [ID (j:=⟨pX j.x (pH j a) (pR j b),pY j.x j.y (pH j a) (pR j b),j.z*pH j a⟩) hZ,ID hz,ON,if_neg (fun e=>hax (AT.2 e.symm)),Uj hax hl]
   unfold IC
   have e1:=AHL j.x j.y a (inv j.z) (inv (j.z*pH j a)) (pH j a) (pR j b) hI eh
   have e2:=AHM j.x j.y a (inv j.z) (inv (j.z*pH j a)) (pH j a) (pR j b) hI eh
   rw [e1] at e2
   rw [e1,e2];rfl
end
end Go.Proofs.YtjlcdlekmpjjnaaGreat.Rg
namespace Go.Proofs.YtjlcdlekmpjjnaaGreat.Rg
section
variable {F:Type} [CR F]
class At (xs:List F) (x:F) (i:outParam Nat):Prop where
 h:nth xs i=x
instance atTail {xs:List F} {x y:F} {i:Nat} [a:At xs x i]:At (y::xs) x (i+1):=⟨a.h⟩
instance (priority:=high) atHead {xs:List F} {x:F}:At (x::xs) x 0:=⟨rfl⟩
class Rf (xs:List F) (t:F) (e:outParam E):Prop where
 h:e.den xs=t
instance (priority:=low) rfV {xs:List F} {x:F} {i:Nat} [a:At xs x i]:Rf xs x (.v i):=⟨a.h⟩
instance rfAdd {xs:List F} {a b:F} {e f:E} [x:Rf xs a e] [y:Rf xs b f]:Rf xs (a+b) (.add e f):=⟨by rw [E.den,x.h,y.h]⟩
instance rfSub {xs:List F} {a b:F} {e f:E} [x:Rf xs a e] [y:Rf xs b f]:Rf xs (a-b) (.sub e f):=⟨by rw [E.den,x.h,y.h]⟩
instance rfMul {xs:List F} {a b:F} {e f:E} [x:Rf xs a e] [y:Rf xs b f]:Rf xs (a*b) (.mul e f):=⟨by rw [E.den,x.h,y.h]⟩
instance rfNeg {xs:List F} {a:F} {e:E} [x:Rf xs a e]:Rf xs (-a) (.neg e):=⟨by rw [E.den,x.h]⟩
instance rfZero {xs:List F}:Rf xs 0 (.c 0):=⟨rfl⟩
instance rfOne {xs:List F}:Rf xs 1 (.c 1):=⟨Q3⟩
theorem ring (xs:List F) {a b:F} {e f:E} [x:Rf xs a e] [y:Rf xs b f] (h:Zq (E.pol (.sub e f))=true):a=b:=by
 rw [← x.h,← y.h];exact AGf xs e f h
end
end Go.Proofs.YtjlcdlekmpjjnaaGreat.Rg
namespace Go.Proofs.YtjlcdlekmpjjnaaGreat.Rg
set_option maxRecDepth 100000
set_option maxHeartbeats 4000000
set_option synthInstance.maxSize 100000
set_option synthInstance.maxHeartbeats 400000
set_option maxHeartbeats 1000000
structure Qx {F:Type} [CR F] (β:F) where
 a:F
 b:F
section
variable {F:Type} [CR F] {β ξ:F}
theorem Qx.ext {x y:Qx β} (h1:x.a=y.a) (h2:x.b=y.b):x=y:=by cases x;cases y;simp_all
instance crQ:CR (Qx β) where
 add x y:=⟨x.a+y.a,x.b+y.b⟩
 mul x y:=⟨x.a*y.a+β*(x.b*y.b),x.a*y.b+x.b*y.a⟩
 neg x:=⟨-x.a,-x.b⟩
 sub x y:=⟨x.a-y.a,x.b-y.b⟩
 zero:=⟨0,0⟩
 one:=⟨1,0⟩
 add_assoc x y z:=Qx.ext (add_assoc _ _ _) (add_assoc _ _ _)
 add_comm x y:=Qx.ext (add_comm _ _) (add_comm _ _)
 zero_add x:=Qx.ext (zero_add _) (zero_add _)
 neg_add x:=Qx.ext (neg_add _) (neg_add _)
 mul_assoc x y z:=Qx.ext (ring [x.a,x.b,y.a,y.b,z.a,z.b,β] (a:=(x.a*y.a+β*(x.b*y.b))*z.a+β*((x.a*y.b+x.b*y.a)*z.b)) (b:=x.a*(y.a*z.a+β*(y.b*z.b))+β*(x.b*(y.a*z.b+y.b*z.a))) (by kernel_rfl))
  (ring [x.a,x.b,y.a,y.b,z.a,z.b,β] (a:=(x.a*y.a+β*(x.b*y.b))*z.b+(x.a*y.b+x.b*y.a)*z.a) (b:=x.a*(y.a*z.b+y.b*z.a)+x.b*(y.a*z.a+β*(y.b*z.b))) (by kernel_rfl))
 mul_comm x y:=Qx.ext (ring [x.a,x.b,y.a,y.b,β] (a:=x.a*y.a+β*(x.b*y.b)) (b:=y.a*x.a+β*(y.b*x.b)) (by kernel_rfl)) (ring [x.a,x.b,y.a,y.b] (a:=x.a*y.b+x.b*y.a) (b:=y.a*x.b+y.b*x.a) (by kernel_rfl))
 one_mul x:=Qx.ext (ring [x.a,x.b,β] (a:=1*x.a+β*(0*x.b)) (by kernel_rfl)) (ring [x.a,x.b] (a:=1*x.b+0*x.a) (by kernel_rfl))
 add_mul x y z:=Qx.ext (ring [x.a,x.b,y.a,y.b,z.a,z.b,β] (a:=(x.a+y.a)*z.a+β*((x.b+y.b)*z.b)) (b:=x.a*z.a+β*(x.b*z.b)+(y.a*z.a+β*(y.b*z.b))) (by kernel_rfl))
  (ring [x.a,x.b,y.a,y.b,z.a,z.b] (a:=(x.a+y.a)*z.b+(x.b+y.b)*z.a) (b:=x.a*z.b+x.b*z.a+(y.a*z.b+y.b*z.a)) (by kernel_rfl))
 sub_eq x y:=Qx.ext (sub_eq _ _) (sub_eq _ _)
def Qx.conj (x:Qx β):Qx β:=⟨x.a,-x.b⟩
def Qx.nrm (x:Qx β):F:=x.a*x.a-β*(x.b*x.b)
theorem Qx.nrm_mul (x y:Qx β):(x*y).nrm=x.nrm*y.nrm :=
 ring [x.a,x.b,y.a,y.b,β] (a:=(x.a*y.a+β*(x.b*y.b))*(x.a*y.a+β*(x.b*y.b))-β*((x.a*y.b+x.b*y.a)*(x.a*y.b+x.b*y.a))) (b:=(x.a*x.a-β*(x.b*x.b))*(y.a*y.a-β*(y.b*y.b))) (by kernel_rfl)
end
section
variable {F:Type} [FD F] {β ξ:F}
open FD (inv)
instance decQ:DecidableEq (Qx β):=fun x y=>if h:x.a=y.a∧x.b=y.b then isTrue (Qx.ext h.1 h.2) else isFalse fun e=>h (by rw [e];exact ⟨rfl,rfl⟩)
theorem Uo {a b:F} (h:a*b=0):a=0∨b=0:=by
 by_cases e:a=0
 ·exact .inl e
 ·exact .inr (Ui e h)
theorem Qx.nrm_ne (hβ:∀ x:F,x*x≠β) {x:Qx β} (h:x.nrm=0):x=⟨0,0⟩:=by
 by_cases hb:x.b=0
 ·have:x.a*x.a=0:=by
   have h':=h
   unfold Qx.nrm at h'
   rw [hb,mul_zero,mul_zero,AT] at h'
   exact h'
  rcases Uo this with e | e<;>exact Qx.ext e hb
 ·exfalso
  refine hβ (x.a*inv x.b) ?_
  have h':=AT.1 h
  have hi:=FD.mul_inv x.b hb
  calc x.a*inv x.b*(x.a*inv x.b)=(x.a*x.a)*(inv x.b*inv x.b):=ring [x.a,inv x.b] (by kernel_rfl)
   _=β*((x.b*inv x.b)*(x.b*inv x.b)):=by rw [h'];exact ring [x.b,inv x.b,β] (by kernel_rfl)
   _=β:=by rw [hi,mul_one,mul_one]
def qO (x:Qx β):Qx β:=⟨x.a*inv x.nrm,-x.b*inv x.nrm⟩
@[reducible] def fdQ (hβ:∀ x:F,x*x≠β):FD (Qx β) where
 inv:=qO
 mul_inv x h:=by
  have hi:=FD.mul_inv x.nrm fun e=>h (Qx.nrm_ne hβ e)
  exact Qx.ext (Eq.trans (ring [x.a,x.b,inv x.nrm,β] (a:=x.a*(x.a*inv x.nrm)+β*(x.b*(-x.b*inv x.nrm))) (b:=(x.a*x.a-β*(x.b*x.b))*inv x.nrm) (by kernel_rfl)) hi)
   (ring [x.a,x.b,inv x.nrm] (a:=x.a*(-x.b*inv x.nrm)+x.b*(x.a*inv x.nrm)) (b:=0) (by kernel_rfl))
 inv_zero:=Qx.ext (zero_mul _) (by show -(0:F)*_=0;rw [OG,zero_mul])
 one_ne h:=FD.one_ne (F:=F) (congrArg Qx.a h)
 dec:=decQ
end
end Go.Proofs.YtjlcdlekmpjjnaaGreat.Rg
namespace Go.Proofs.YtjlcdlekmpjjnaaGreat
open Ex Num
set_option maxRecDepth 100000
set_option maxHeartbeats 4000000
abbrev FP:Type:=Fin pN
theorem Bx (a:FP):tf a.val=a:=by
 rw [Fin.ext_iff];show a.val % pN=a.val;exact Nat.mod_eq_of_lt a.isLt
theorem JF {x:Nat} (h:x<pN):(tf x).val=x:=Nat.mod_eq_of_lt h
theorem K6 {x:Nat} {a:FP} (hx:x<pN) (h:tf x=a):x=a.val:=by rw [← h,JF hx]
noncomputable def JG (a:FP):FP:=tf (BO a.val)
theorem AHQ {a:FP} (h:a≠0):a*JG a=1:=by
 have hz:a.val % pN≠0:=fun e=>h (by
  have:=UE.2 e
  rwa [Bx] at this)
 have:=mV hz
 rwa [Bx] at this
theorem AHR:JG 0=0:=by
 unfold JG
 have:BO (0:FP).val=0:=mU rfl
 rw [this];exact tf_zero
theorem AHS:(1:FP)≠0:=fun h=>by
 have:=I9 (show 1<pN by decide) CM (by rw [FY,tf_zero];exact h)
 cases this
noncomputable instance fdFP:Rg.FD FP where
 add_assoc a b c:=by grind
 add_comm a b:=by grind
 zero_add a:=by grind
 neg_add a:=by grind
 mul_assoc a b c:=by grind
 mul_comm a b:=by grind
 one_mul a:=by grind
 add_mul a b c:=by grind
 sub_eq a b:=by grind
 inv:=JG
 mul_inv a h:=AHQ h
 inv_zero:=AHR
 one_ne:=AHS
 dec:=inferInstance
theorem AHT:(Rg.int 2:FP)=1+1:=by
 show (0:FP)+1+1=1+1
 grind
def Zu (m:Nat):Bool:=Nat.beq (Kr pN (pN-m) 384 ((pN-1) / 3)) 1
theorem AHU:Zu 4=false:=by kernel_rfl
theorem p3:(pN-1) / 3*3=pN-1:=by kernel_rfl
theorem qP:Nat.blt ((pN-1) / 3) RR=true:=by kernel_rfl
theorem AHV {m:Nat} (hm:m<pN) (h0:0<m) (hc:Zu m=false) (x:Nat):(x^3+m) % pN≠0:=by
 intro h
 have hx:x^3 % pN=pN-m:=by
  have h1:=E_ (x^3)
  rw [Nat.add_mod,Nat.mod_eq_of_lt hm] at h
  have h2:x^3 % pN+m=pN:=by
   have hd:=Nat.dvd_of_mod_eq_zero h
   obtain ⟨k,hk⟩:=hd
   have:k=1:=by
    rcases Nat.lt_or_ge k 1 with q | q
    ·rw [show k=0 by omega,Nat.mul_zero] at hk;omega
    ·rcases Nat.lt_or_ge k 2 with q2 | q2
     ·omega
     ·have:=Nat.mul_le_mul_left pN q2
      omega
   rw [this,Nat.mul_one] at hk
   exact hk
  omega
 have hnd:¬ pN∣x:=fun hd=>by
  obtain ⟨k,hk⟩:=hd
  have:x^3 % pN=0:=by rw [hk,Nat.mul_pow,Nat.pow_succ,Nat.mul_comm (pN^2),Nat.mul_assoc,Nat.mul_mod_right]
  omega
 have hf:=N3 pN_prime hnd
 rw [← p3,Nat.mul_comm,Nat.pow_mul,Nat.pow_mod,hx,← Yx pN 384 (pN-m) ((pN-1) / 3) (by rw [lH];exact Ay.1 qP)] at hf
 unfold Zu at hc
 rw [hf] at hc
 cases hc
noncomputable def Cl:FP:=tf 4
noncomputable def C1:Rg.Cv FP where
 b:=Cl
 two:=by
  rw [AHT]
  have h2:tf 2=1+1:=by rw [← FY,← FX]
  rw [← h2]
  intro h
  have:=I9 (show 2<pN by decide) CM (by rw [h,tf_zero])
  cases this
 no2:=fun x y h hy=>by
  subst hy
  have h1:x*x*x+Cl=0:=by
   rw [← h]
   grind
  have h2:tf (x.val^3+4)=0:=by
   rw [FX,Nat.pow_succ,Nat.pow_succ,Nat.pow_one,Kx,Kx,Bx]
   exact h1
  exact AHV (by decide) (by decide) AHU x.val (UE.1 h2)
end Go.Proofs.YtjlcdlekmpjjnaaGreat
namespace Go.Proofs.YtjlcdlekmpjjnaaGreat
open Ex Num Rg
set_option maxRecDepth 100000
set_option maxHeartbeats 4000000
def BX (x y:Nat) (i:Bool):AV:=.val true [.num 6 x,.num 6 y,.v (.bool i)]
def OS (cs:List Ch):Option (Nat×Nat×Bool):=match EM cs 6 with
 | some (a,r)=>match EM r 6 with
  | some (b,[c])=>match Br 6 a,Br 6 b,D6 (some (.val false [c])) with
   | some x,some y,some (_,i)=>some (x,y,i)
   | _,_,_=>none
  | _=>none
 | none=>none
theorem GD {β β':Env} {cs:List Ch} {x y:Nat} {i:Bool} {u:Value} (h:OS cs=some (x,y,i)) (hr:AO β (.val true cs) u):AO β' (BX x y i) u∧x<RR∧y<RR:=by
 unfold OS at h
 split at h
 case h_2=>cases h
 rename_i a r h1
 split at h
 case h_2=>cases h
 rename_i b c h2
 split at h
 case h_2=>cases h
 rename_i x' y' c0 i' h3 h4 h5
 injection h with h;injection h with e1 h;injection h with e2 e3
 subst e1;subst e2;subst e3
 obtain ⟨l,hl,rfl⟩:=hr
 obtain ⟨q1,q2,q3⟩:=GP h1 hl
 obtain ⟨r1,r2,r3⟩:=GP h2 q2
 obtain ⟨ea,la⟩:=E3 h3 q1
 obtain ⟨eb,lb⟩:=E3 h4 r1
 obtain ⟨l1,l2,hc1,hc2,hc3⟩:=r2
 simp only [AM] at hc2
 subst hc2
 have hlen:=NR hc1
 have hsz:Da c=1:=by
  unfold D6 at h5
  split at h5
  ·rename_i _ _ hq;injection hq with hq;injection hq with _ hq;injection hq with hq _;rw [hq];rfl
  ·rename_i _ _ hq;injection hq with hq;injection hq with _ hq;injection hq with hq _;rw [hq];rfl
  ·cases h5
 rw [hsz] at hlen
 obtain ⟨w,rfl⟩:=List.length_eq_one_iff.1 hlen
 have hw:w=.bool i':=HF (β:=β) (u:=w) (fun A hA=>by injection hA with hA;subst hA;exact ⟨[w],[],hc1,rfl,rfl⟩) h5
 subst hw
 rw [CL]
 refine ⟨⟨l,⟨_,_,⟨la,rfl⟩,⟨_,_,⟨lb,rfl⟩,⟨[.bool i'],[],⟨rfl,rfl,trivial⟩,rfl,rfl⟩,rfl⟩,?_⟩,rfl⟩,la,lb⟩
 rw [← ea,← eb,← hc3,List.take_append_drop,List.take_append_drop]
def Ae (x y:Nat) (i:Bool):Pt FP:=match i with
 | true=>.inf
 | false=>.pt (tf x) (tf y)
def CU:Pt FP→Nat
 | .inf=>0
 | .pt a _=>a.val
def BS:Pt FP→Nat
 | .inf=>0
 | .pt _ b=>b.val
def BM:Pt FP→Bool
 | .inf=>true
 | .pt _ _=>false
def GE (P:Pt FP):AV:=BX (CU P) (BS P) (BM P)
theorem K7 (P:Pt FP):CU P<pN:=by cases P with | inf=>exact CM | pt a b=>exact a.isLt
theorem Up (P:Pt FP):BS P<pN:=by cases P with | inf=>exact CM | pt a b=>exact b.isLt
theorem K8 (P:Pt FP):Ae (CU P) (BS P) (BM P)=P:=by
 cases P with
 | inf=>rfl
 | pt a b=>show Pt.pt (tf a.val) (tf b.val)=_;rw [Bx,Bx]
theorem AHW (x y:Nat):GE (.pt (tf x) (tf y))=BX (x % pN) (y % pN) false:=rfl
theorem qQ {x y:Nat} {a b:FP} (hx:x<pN) (hy:y<pN) (ha:tf x=a) (hb:tf y=b):BX x y false=GE (.pt a b):=by
 rw [← ha,← hb,AHW,Nat.mod_eq_of_lt hx,Nat.mod_eq_of_lt hy]
theorem JH {P:Program} {f:FuncId} {args:List AV} {cs:List Ch} {x y:Nat} {i:Bool} (h:AX P f args (.val true cs)) (hc:OS cs=some (x,y,i)):AX P f args (BX x y i):=C_ h fun _ hu=>(GD hc hu).1
def K9 (g:Pt FP→AV):List AV→Option AV
 | [.val true a]=>match OS a with
  | some (x,y,i)=>some (g (Ae x y i))
  | none=>none
 | _=>none
theorem OT {f:FuncId} {g:Pt FP→AV} (h:∀ x y i,AX Tryz.prog f [BX x y i] (g (Ae x y i))):∀ args v,K9 g args=some v→AX Tryz.prog f args v:=by
 intro args v hs us w ha
 unfold K9 at hs
 split at hs
 case h_2=>cases hs
 rename_i a
 split at hs
 case h_2=>cases hs
 rename_i x y i hx
 injection hs with hs;subst hs
 obtain ⟨u1,us1,r1,ha,rfl⟩:=ha
 exact h x y i _ w ⟨u1,_,(GD hx r1).1,ha,rfl⟩
theorem AHX:Ac Tryz.prog (AI S0 K0) Tryz.f132 [] [] 100=some ([],.val true [.n .u64 4,.n .u64 0,.n .u64 0,.n .u64 0,.n .u64 0,.n .u64 0]):=by kernel_rfl
theorem AHY:AX Tryz.prog 132 [] (AW 4):=C_ (Ag (AK F8 AY) AE Tryz.func132 AHX trivial rfl) fun u hu=>QP (by kernel_rfl) hu
def gX:Nat:=0x17f1d3a73197d7942695638c4fa9ac0fc3688c4f9774b905a14e3a3f171bac586c55e83ff97a1aeffb3af00adb22c6bb
def gY:Nat:=0x08b3f481e3aaa0f1a09e30ed741d8ae4fcf5e095d5d00af600db18cb2c04b3edd03cc744a2888ae40caa232946c5e7e1
def gC:List Ch:=[.n .u64 0xfb3af00adb22c6bb,.n .u64 0x6c55e83ff97a1aef,.n .u64 0xa14e3a3f171bac58,.n .u64 0xc3688c4f9774b905,.n .u64 0x2695638c4fa9ac0f,.n .u64 0x17f1d3a73197d794,
 .n .u64 0xcaa232946c5e7e1,.n .u64 0xd03cc744a2888ae4,.n .u64 0xdb18cb2c04b3ed,.n .u64 0xfcf5e095d5d00af6,.n .u64 0xa09e30ed741d8ae4,.n .u64 0x8b3f481e3aaa0f1,.b false]
theorem AHZ:Ac Tryz.prog (AI S0 K0) Tryz.f23 [] [] 100=some ([],.val true gC):=by kernel_rfl
def G1B:Pt FP:=.pt (tf gX) (tf gY)
theorem AHa:Nat.blt gX pN=true:=by kernel_rfl
theorem AHb:Nat.blt gY pN=true:=by kernel_rfl
theorem qS:BX gX gY false=GE G1B:=qQ (Ay.1 AHa) (Ay.1 AHb) rfl rfl
theorem AHc:AX Tryz.prog 23 [] (GE G1B):=by
 rw [← qS]
 exact JH (Ag (AK F8 AY) AE Tryz.func23 AHZ trivial rfl) (by kernel_rfl)
def ED (i:Bool):List Ch:=[.n .u64 0,.n .u64 0,.n .u64 0,.n .u64 0,.n .u64 0,.n .u64 0,.n .u64 0,.n .u64 0,.n .u64 0,.n .u64 0,.n .u64 0,.n .u64 0,.b i]
theorem AHd (x y:Nat) (i:Bool):Ac Tryz.prog (AI SE K0) Tryz.f69 [BX x y i] [true] 300=some ([(i,true)],.val true (ED true)):=by kernel_rfl
theorem AHe (x y:Nat) (i:Bool):Ac Tryz.prog (AI SE K0) Tryz.f69 [BX x y i] [false] 300=some ([(i,false)],.val true [.num 6 (x % pN),.num 6 (y % pN),.b false]):=by kernel_rfl
theorem AHf (x y:Nat) (i:Bool):AX Tryz.prog 69 [BX x y i] (GE (Ae x y i)):=by
 cases i with
 | true=>exact JH (Ag (AK Zm AY) AE Tryz.func69 (AHd x y true) ⟨rfl,trivial⟩ rfl) (by kernel_rfl)
 | false=>exact JH (Ag (AK Zm AY) AE Tryz.func69 (AHe x y false) ⟨rfl,trivial⟩ rfl) (by kernel_rfl)
noncomputable def SG0:List (FuncId×ASpec):=(132,Ar fun args=>match args with | []=>some (AW 4) | _=>none)::(23,Ar fun args=>match args with | []=>some (GE G1B) | _=>none)::(69,Ar (K9 GE))::SE
theorem Zv:AU Tryz.prog SG0:=⟨Au Tryz.func132 (by kernel_rfl) (by kernel_rfl) (MP AHY fun u h=>h),Au Tryz.func23 (by kernel_rfl) (by kernel_rfl) (MP AHc fun u h=>h),Au Tryz.func69 (by kernel_rfl) (by kernel_rfl) (OT AHf),Zm⟩
theorem qU {n:Nat} (h:n<pN):tf (BO n)=JG (tf n):=by unfold JG;rw [JF h]
theorem Uq {b:FP}:b.val=0↔b=0:=by rw [Fin.ext_iff];exact Iff.rfl
noncomputable def By:Pt FP→Bool
 | .inf=>true
 | .pt a b=>decide (b*b=a*a*a+Cl)
theorem OU (P:Pt FP):By P=true↔Rg.On C1.b P:=by
 cases P with
 | inf=>exact ⟨fun _=>trivial,fun _=>rfl⟩
 | pt a b=>exact decide_eq_true_iff
theorem AHg (x y:Nat) (i:Bool):Ac Tryz.prog (AI SG0 K0) Tryz.f70 [BX x y i] [true] 300=some ([(i,true)],.val false [.b true]):=by kernel_rfl
theorem AHh (x y:Nat) (i:Bool):Ac Tryz.prog (AI SG0 K0) Tryz.f70 [BX x y i] [false] 300=some ([(i,false)],BV (decide (Aa y y=Cq (Aa (Aa x x) x) 4))):=by kernel_rfl
theorem Zw (x y:Nat):decide (Aa y y=Cq (Aa (Aa x x) x) 4)=By (Ae x y false):=by
 have e:(Aa y y=Cq (Aa (Aa x x) x) 4)↔(tf y*tf y=tf x*tf x*tf x+Cl):=by
  constructor
  ·intro h
   have:=congrArg tf h
   simpa [Bk,Gw,Cl] using this
  ·intro h
   exact I9 (I4 _ _) (UD _ _) (by simpa [Bk,Gw,Cl] using h)
 show _=decide (tf y*tf y=tf x*tf x*tf x+Cl)
 by_cases h:Aa y y=Cq (Aa (Aa x x) x) 4
 ·rw [decide_eq_true h,decide_eq_true (e.1 h)]
 ·rw [decide_eq_false h,decide_eq_false fun q=>h (e.2 q)]
theorem AHi (x y:Nat) (i:Bool):AX Tryz.prog 70 [BX x y i] (BV (By (Ae x y i))):=by
 cases i with
 | true=>exact C_ (Ag (AK Zv AY) AE Tryz.func70 (AHg x y true) ⟨rfl,trivial⟩ rfl) fun u hu=>Kq rfl hu
 | false=>rw [← Zw];exact Ag (AK Zv AY) AE Tryz.func70 (AHh x y false) ⟨rfl,trivial⟩ rfl
section
variable (x y:Nat) (i:Bool) (x' y':Nat) (i':Bool)
end
noncomputable def SG1:List (FuncId×ASpec):=(70,Ar (K9 fun P=>BV (By P)))::SG0
theorem qV:AU Tryz.prog SG1:=⟨Au Tryz.func70 (by kernel_rfl) (by kernel_rfl) (OT AHi),Zv⟩
def Cc (x y z:Nat):AV:=.val true [.num 6 x,.num 6 y,.num 6 z]
def G1 (j:J FP):AV:=Cc j.x.val j.y.val j.z.val
def BW (x y z:Nat):J FP:=⟨tf x,tf y,tf z⟩
def Mn (cs:List Ch):Option (Nat×Nat×Nat):=match EM cs 6 with
 | some (a,r)=>match EM r 6 with
  | some (b,c)=>match Br 6 a,Br 6 b,Br 6 c with
   | some x,some y,some z=>some (x,y,z)
   | _,_,_=>none
  | _=>none
 | none=>none
theorem OV {β β':Env} {cs:List Ch} {x y z:Nat} {u:Value} (h:Mn cs=some (x,y,z)) (hr:AO β (.val true cs) u):AO β' (Cc x y z) u:=by
 unfold Mn at h
 split at h
 case h_2=>cases h
 rename_i a r h1
 split at h
 case h_2=>cases h
 rename_i b c h2
 split at h
 case h_2=>cases h
 rename_i x' y' z' h3 h4 h5
 injection h with h;injection h with e1 h;injection h with e2 e3
 subst e1;subst e2;subst e3
 obtain ⟨l,hl,rfl⟩:=hr
 obtain ⟨q1,q2,q3⟩:=GP h1 hl
 obtain ⟨r1,r2,r3⟩:=GP h2 q2
 obtain ⟨ea,la⟩:=E3 h3 q1
 obtain ⟨eb,lb⟩:=E3 h4 r1
 obtain ⟨ec,lc⟩:=E3 h5 r2
 refine ⟨l,⟨_,_,⟨la,rfl⟩,⟨_,_,⟨lb,rfl⟩,⟨_,[],⟨lc,rfl⟩,rfl,rfl⟩,rfl⟩,?_⟩,rfl⟩
 rw [← ea,← eb,← ec,List.append_nil,List.take_append_drop,List.take_append_drop]
theorem K_ {x y z:Nat} {j:J FP} (hx:x<pN) (hy:y<pN) (hz:z<pN) (ex:tf x=j.x) (ey:tf y=j.y) (ez:tf z=j.z):Cc x y z=G1 j:=by
 unfold G1
 rw [← K6 hx ex,← K6 hy ey,← K6 hz ez]
def nE (x:Nat):Nat:=Cq (Cq (Aa x x) (Aa x x)) (Aa x x)
def nD (x y:Nat):Nat:=Cq (Cq (Aa x (Aa y y)) (Aa x (Aa y y))) (Cq (Aa x (Aa y y)) (Aa x (Aa y y)))
def Zx (y:Nat):Nat:=Cq (Aa (Aa y y) (Aa y y)) (Aa (Aa y y) (Aa y y))
def Zy (y:Nat):Nat:=Cq (Zx y) (Zx y)
def qW (y:Nat):Nat:=Cq (Zy y) (Zy y)
def nX (x y:Nat):Nat:=C9 (Aa (nE x) (nE x)) (Cq (nD x y) (nD x y))
def nY (x y:Nat):Nat:=C9 (Aa (nE x) (C9 (nD x y) (nX x y))) (qW y)
theorem AHj (x y z:Nat):Ac Tryz.prog (AI SG1 K0) Tryz.f71 [Cc x y z] [] 500=some ([],Cc (nX x y) (nY x y) (Cq (Aa y z) (Aa y z))):=by kernel_rfl
theorem qZ (x y:Nat):tf (nX x y)=jX (tf x) (tf y):=by
 unfold nX nE nD jX jE jD
 simp only [FE,Bk,Gw]
theorem AHk (x y:Nat):tf (nY x y)=jE (tf x)*(jD (tf x) (tf y)-jX (tf x) (tf y))-Q_ (tf y):=by
 unfold nY
 rw [FE,Bk,FE,qZ]
 unfold nE nD qW Zy Zx jE jD Q_ Um jC2
 simp only [Bk,Gw]
theorem AHl (x y z:Nat):AX Tryz.prog 71 [Cc x y z] (G1 (Bq (BW x y z))):=by
 rw [← K_ (j:=Bq (BW x y z)) (FF _ _) (FF _ _) (UD _ _) (qZ x y) (AHk x y) (by rw [Gw,Bk];rfl)]
 exact Ag (AK qV AY) AE Tryz.func71 (AHj x y z) trivial rfl
def Ur (g:J FP→AV):List AV→Option AV
 | [.val true a]=>match Mn a with
  | some (x,y,z)=>some (g (BW x y z))
  | none=>none
 | _=>none
theorem rA {f:FuncId} {g:J FP→AV} (h:∀ x y z,AX Tryz.prog f [Cc x y z] (g (BW x y z))):∀ args v,Ur g args=some v→AX Tryz.prog f args v:=by
 intro args v hs us w ha
 unfold Ur at hs
 split at hs
 case h_2=>cases hs
 rename_i a
 split at hs
 case h_2=>cases hs
 rename_i x y z hx
 injection hs with hs;subst hs
 obtain ⟨u1,us1,r1,ha,rfl⟩:=ha
 exact h x y z _ w ⟨u1,_,OV hx r1,ha,rfl⟩
noncomputable def SG2:List (FuncId×ASpec):=(71,Ar (Ur fun j=>G1 (Bq j)))::SG1
theorem K':AU Tryz.prog SG2:=⟨Au Tryz.func71 (by kernel_rfl) (by kernel_rfl) (rA AHl),qV⟩
def nH (x z a:Nat):Nat:=C9 (Aa a (Aa z z)) x
def nR (y z b:Nat):Nat:=C9 (Aa b (Aa (Aa z z) z)) y
def JI (x h r:Nat):Nat:=C9 (C9 (Aa r r) (Aa (Aa h h) h)) (Cq (Aa x (Aa h h)) (Aa x (Aa h h)))
def OW (x y h r:Nat):Nat:=C9 (Aa r (C9 (Aa x (Aa h h)) (JI x h r))) (Aa y (Aa (Aa h h) h))
section
variable (x y z a b:Nat) (i:Bool)
theorem AHm:Ac Tryz.prog (AI SG2 K0) Tryz.f72 [Cc x y z,BX a b i] [true] 500=some ([(decide (z=0),true)],.val true (.num 6 a::.num 6 b::Ze)):=by kernel_rfl
theorem AHn:Ac Tryz.prog (AI SG2 K0) Tryz.f72 [Cc x y z,BX a b i] [false,true,true] 500=some ([(decide (z=0),false),(decide (nH x z a=0),true),(decide (nR y z b=0),true)],G1 (Bq (BW x y z))):=by kernel_rfl
theorem AHo:Ac Tryz.prog (AI SG2 K0) Tryz.f72 [Cc x y z,BX a b i] [false,true,false,true] 500=some ([(decide (z=0),false),(decide (nH x z a=0),true),(decide (nR y z b=0),false),(decide (nH x z a=0),true)],.val true (List.replicate 18 (.n .u64 0))):=by kernel_rfl
theorem AHp:Ac Tryz.prog (AI SG2 K0) Tryz.f72 [Cc x y z,BX a b i] [false,false,false] 500=some ([(decide (z=0),false),(decide (nH x z a=0),false),(decide (nH x z a=0),false)],Cc (JI x (nH x z a) (nR y z b)) (OW x y (nH x z a) (nR y z b)) (Aa z (nH x z a))):=by kernel_rfl
end
theorem rB (x y z a:Nat):tf (nH x z a)=pH (BW x y z) (tf a):=by unfold nH pH BW;simp only [FE,Bk]
theorem rC (x y z b:Nat):tf (nR y z b)=pR (BW x y z) (tf b):=by unfold nR pR BW;simp only [FE,Bk]
theorem IE {n:Nat} (h:n<pN):n=0↔tf n=0:=by
 constructor
 ·rintro rfl;exact tf_zero
 ·intro e;exact I9 h CM (e.trans tf_zero.symm)
theorem Us {P:Program} {f:FuncId} {args:List AV} {cs:List Ch} {x y z:Nat} (h:AX P f args (.val true cs)) (hc:Mn cs=some (x,y,z)):AX P f args (Cc x y z):=C_ h fun _ hu=>OV hc hu
theorem AHq {x y z a b:Nat} {i:Bool} (hz:z<pN) (ha:a<pN) (hb:b<pN):AX Tryz.prog 72 [Cc x y z,BX a b i] (G1 (FG (BW x y z) (tf a) (tf b))):=by
 have eh:=rB x y z a
 have er:=rC x y z b
 have zh:=IE (n:=nH x z a) (FF _ _)
 have zr:=IE (n:=nR y z b) (FF _ _)
 rw [eh] at zh
 rw [er] at zr
 unfold FG
 by_cases h0:z=0
 ·rw [if_pos (show (BW x y z).z=0 from (IE hz).1 h0),← K_ (j:=⟨tf a,tf b,1⟩) ha hb (show 1<pN by decide) rfl rfl FY]
  exact Us (Ag (AK K' AY) AE Tryz.func72 (AHm x y z a b i) ⟨decide_eq_true h0,trivial⟩ rfl) rfl
 ·rw [if_neg (show ¬ (BW x y z).z=0 from fun e=>h0 ((IE hz).2 e))]
  by_cases hh:nH x z a=0
  ·rw [if_pos (zh.1 hh)]
   by_cases hr:nR y z b=0
   ·rw [if_pos (zr.1 hr)]
    exact Ag (AK K' AY) AE Tryz.func72 (AHn x y z a b i) ⟨decide_eq_false h0,decide_eq_true hh,decide_eq_true hr,trivial⟩ rfl
   ·rw [if_neg (fun e=>hr (zr.2 e)),← K_ (j:=⟨0,0,0⟩) CM CM CM tf_zero tf_zero tf_zero]
    exact Us (Ag (AK K' AY) AE Tryz.func72 (AHo x y z a b i) ⟨decide_eq_false h0,decide_eq_true hh,decide_eq_false hr,decide_eq_true hh,trivial⟩ rfl) (by kernel_rfl)
  ·rw [if_neg (fun e=>hh (zh.2 e)),← K_ (j:=⟨pX (BW x y z).x (pH (BW x y z) (tf a)) (pR (BW x y z) (tf b)),pY (BW x y z).x (BW x y z).y (pH (BW x y z) (tf a)) (pR (BW x y z) (tf b)),(BW x y z).z*pH (BW x y z) (tf a)⟩)
    (x:=JI x (nH x z a) (nR y z b)) (y:=OW x y (nH x z a) (nR y z b)) (z:=Aa z (nH x z a)) (FF _ _) (FF _ _) (I4 _ _) ?_ ?_ ?_]
   ·exact Ag (AK K' AY) AE Tryz.func72 (AHp x y z a b i) ⟨decide_eq_false h0,decide_eq_false hh,decide_eq_false hh,trivial⟩ rfl
   ·unfold JI pX;simp only [FE,Bk,Gw,eh,er];rfl
   ·unfold OW JI pY pX;simp only [FE,Bk,Gw,eh,er];rfl
   ·rw [Bk,eh];rfl
noncomputable def OX:List AV→Option (List (Bool×Bool)×AV)
 | [.val true a,.val true b]=>match Mn a,OS b with
  | some (x,y,z),some (p,q,_)=>some ([(decide (z<pN),true),(decide (p<pN),true),(decide (q<pN),true)],G1 (FG (BW x y z) (tf p) (tf q)))
  | _,_=>none
 | _=>none
theorem AHr:∀ args c v,OX args=some (c,v)→AQ c→AX Tryz.prog 72 args v:=by
 intro args c v hs hc us w ha
 unfold OX at hs
 split at hs
 case h_2=>cases hs
 rename_i a b
 split at hs
 case h_2=>cases hs
 rename_i x y z p q i hx hy
 injection hs with hs;injection hs with h1 h2;subst h1;subst h2
 obtain ⟨u1,us1,r1,⟨u2,us2,r2,ha,rfl⟩,rfl⟩:=ha
 exact AHq (of_decide_eq_true hc.1) (of_decide_eq_true hc.2.1) (of_decide_eq_true hc.2.2.1) _ w ⟨u1,_,OV hx r1,⟨u2,_,(GD hy r2).1,ha,rfl⟩,rfl⟩
def KG:List (TypeId×List (Option IntKind)):=(93,List.replicate 18 (some .u64))::K0
theorem CV:In Tryz.prog KG:=⟨⟨by kernel_rfl,by kernel_rfl,by kernel_rfl⟩,AY⟩
def z3 (x y z:Nat):Bool:=decide (x=0)&&(decide (y=0)&&decide (z=0))
theorem AHs (x y z:Nat):Ac Tryz.prog (AI SG2 KG) Tryz.f73 [Cc x y z] [true] 500=some ([(z3 x y z,true)],.val true (ED true)):=by kernel_rfl
theorem AHt (x y z:Nat):Ac Tryz.prog (AI SG2 KG) Tryz.f73 [Cc x y z] [false,true] 500=some ([(z3 x y z,false),(decide (z=0),true)],.val true (ED true)):=by kernel_rfl
theorem AHu (x y z:Nat):Ac Tryz.prog (AI SG2 KG) Tryz.f73 [Cc x y z] [false,false] 500=some ([(z3 x y z,false),(decide (z=0),false)],.val true [.num 6 (Aa x (Aa (BO z) (BO z))),.num 6 (Aa y (Aa (Aa (BO z) (BO z)) (BO z))),.b false]):=by kernel_rfl
theorem AHv {x y z:Nat} (hz:z<pN):AX Tryz.prog 73 [Cc x y z] (GE (CT (BW x y z))):=by
 by_cases h0:z=0
 ·rw [G0 (j:=BW x y z) ((IE hz).1 h0)]
  cases h3:z3 x y z with
  | true=>exact JH (Ag (AK K' CV) AE Tryz.func73 (AHs x y z) ⟨h3,trivial⟩ rfl) (by kernel_rfl)
  | false=>exact JH (Ag (AK K' CV) AE Tryz.func73 (AHt x y z) ⟨h3,decide_eq_true h0,trivial⟩ rfl) (by kernel_rfl)
 ·have h3:z3 x y z=false:=by unfold z3;rw [decide_eq_false h0,Bool.and_false,Bool.and_false]
  rw [ID (j:=BW x y z) (fun e=>h0 ((IE hz).2 e))]
  have ei:tf (BO z)=FD.inv (tf z):=qU hz
  rw [← qQ (x:=Aa x (Aa (BO z) (BO z))) (y:=Aa y (Aa (Aa (BO z) (BO z)) (BO z))) (I4 _ _) (I4 _ _) (by rw [Bk,Bk,ei];rfl) (by rw [Bk,Bk,Bk,ei];rfl)]
  exact JH (Ag (AK K' CV) AE Tryz.func73 (AHu x y z) ⟨h3,decide_eq_false h0,trivial⟩ rfl) rfl
noncomputable def Zz:List AV→Option (List (Bool×Bool)×AV)
 | [.val true a]=>match Mn a with
  | some (x,y,z)=>some ([(decide (z<pN),true)],GE (CT (BW x y z)))
  | _=>none
 | _=>none
theorem AHw:∀ args c v,Zz args=some (c,v)→AQ c→AX Tryz.prog 73 args v:=by
 intro args c v hs hc us w ha
 unfold Zz at hs
 split at hs
 case h_2=>cases hs
 rename_i a
 split at hs
 case h_2=>cases hs
 rename_i x y z hx
 injection hs with hs;injection hs with h1 h2;subst h1;subst h2
 obtain ⟨u1,us1,r1,ha,rfl⟩:=ha
 exact AHv (of_decide_eq_true hc.1) _ w ⟨u1,_,OV hx r1,ha,rfl⟩
noncomputable def SG3:List (FuncId×ASpec):=(72,DI OX)::(73,DI Zz)::SG2
theorem Mo:AU Tryz.prog SG3:=⟨Di Tryz.func72 (by kernel_rfl) (by kernel_rfl) AHr,Di Tryz.func73 (by kernel_rfl) (by kernel_rfl) AHw,K'⟩
theorem rD {H0:Heap} {k b:Nat} {blk blk' x:Blk} (h:AG (H0++[(k,some blk')]) b=some x):AG (H0++[(k,some blk)]) b=some x∨(x=blk'∧AG (H0++[(k,some blk)]) b=some blk):=by
 induction H0 with
 | nil =>
  simp only [List.nil_append,AG] at h ⊢
  cases e:Nat.beq k b with
  | true=>rw [e] at h;injection h with h;exact .inr ⟨h.symm,rfl⟩
  | false=>rw [e] at h;cases h
 | cons y r ih =>
  obtain ⟨j,z⟩:=y
  simp only [List.cons_append,AG] at h ⊢
  cases e:Nat.beq j b with
  | true=>rw [e] at h;exact .inl h
  | false=>rw [e] at h;exact ih h
theorem rE {β:Env} {ty:TypeId} {cs cs':List Ch} {o:Bool} {k:Nat} {w:World} (h:∀ β l,AM β cs l→AM β cs' l) (hr:Dn β ⟨ty,cs,o⟩ k w):Dn β ⟨ty,cs',o⟩ k w:=by
 rcases hr with ⟨B,n,l,t,pre,ty',fz,q1,q2,q3⟩ | ⟨q1,q2,q3⟩
 ·exact .inl ⟨B,n,l,t,pre,ty',fz,q1,h _ _ q2,q3⟩
 ·exact .inr ⟨q1,q2,h _ _ q3⟩
theorem AHx {β:Env} {H0:Heap} {k:Nat} {ty:TypeId} {cs cs':List Ch} {o:Bool} {w:World} (h:∀ β l,AM β cs l→AM β cs' l) (g:Ex.Good β (H0++[(k,some ⟨ty,cs,o⟩)]) w):Ex.Good β (H0++[(k,some ⟨ty,cs',o⟩)]) w:=by
 have hs:∀ b x,AG (H0++[(k,some ⟨ty,cs',o⟩)]) b=some x→∃ y,AG (H0++[(k,some ⟨ty,cs,o⟩)]) b=some y∧y.ty=x.ty:=fun b x hb=>by
  rcases rD (blk:=⟨ty,cs,o⟩) hb with e | ⟨rfl,e⟩
  ·exact ⟨x,e,rfl⟩
  ·exact ⟨_,e,rfl⟩
 refine ⟨fun b blk hb=>?_,fun b b' B n n' h1 h2 h3 h4=>?_,g.lt⟩
 ·rcases rD (blk:=⟨ty,cs,o⟩) hb with e | ⟨rfl,e⟩
  ·exact g.heap b blk e
  ·exact rE h (g.heap b _ e)
 ·obtain ⟨x,hx,hr⟩:=E0 h1
  obtain ⟨y,hy,e⟩:=hs b x hx
  obtain ⟨x',hx'⟩:=Option.isSome_iff_exists.1 h2
  obtain ⟨y',hy',_⟩:=hs b' x' hx'
  exact g.inj b b' B n n' (EO hy (by rw [e];exact hr)) (by rw [hy'];rfl) h3 h4
theorem Z0 {P:Program} {f:FuncId} {β0:Env} {w0:World} {R:Ending→World→Prop} {n:Nat} {W:List Nat} {todo:List Item} {T:List AV} {H0:Heap} {k:Nat} {ty:TypeId} {cs cs':List Ch} {o:Bool} {fr:Nat} {p:List Bool} (h:∀ β l,AM β cs l→AM β cs' l)
  (hs:ASafe P f β0 w0 R n W ⟨todo,⟨T,H0++[(k,some ⟨ty,cs',o⟩)],fr,p⟩⟩):ASafe P f β0 w0 R n W ⟨todo,⟨T,H0++[(k,some ⟨ty,cs,o⟩)],fr,p⟩⟩ :=
 fun β a w hi hf=>hs β a w { hi with good:=AHx h hi.good } hf
noncomputable def AHy:List Item:=Bh (AR Tryz.prog (AI SG3 KG) (some 0) 500 1 none (Af Tryz.f22 [AJ 0 0 0 0,BX 0 0 false] (BB []) 1 [false,false]))
noncomputable def gmT (off n m:Nat) (i:Int):List AV:=.val false [.sl 0 off n m]::.any::.any::.val false [.p 1 0]::.val false [.p 2 0]::.val false [.n .i64 0]::.val false [.p 3 0]::.val false [.v (.int .i64 i)]::List.replicate (Tryz.f22.ntmps-8) .any
noncomputable def gmH (xs:List Int) (P:Pt FP):Heap:=[(0,some (Ad [.seq .u64 xs])),(1,some ⟨32,[.num 6 (CU P),.num 6 (BS P),.v (.bool (BM P))],false⟩),(2,some ⟨32,ED false,false⟩)]
noncomputable def JJ (off n m:Nat) (xs:List Int) (P:Pt FP) (out:List Ch) (i:Int) (path:List Bool):ASt:=⟨AHy,⟨gmT off n m i,List.append (gmH xs P) [(3,some ⟨93,out,false⟩)],4,path⟩⟩
def jC (j:J FP):List Ch:=[.num 6 j.x.val,.num 6 j.y.val,.num 6 j.z.val]
def Ut:List Ch:=[.n .u64 0,.n .u64 0,.n .u64 0,.n .u64 0,.n .u64 0,.n .u64 0,.n .u64 0,.n .u64 0,.n .u64 0,.n .u64 0,.n .u64 0,.n .u64 0,.n .u64 0,.n .u64 0,.n .u64 0,.n .u64 0,.n .u64 0,.n .u64 0]
def Ef (j:J FP):J FP:=BW j.x.val j.y.val j.z.val
theorem RA (j:J FP):Ef j=j:=by
 unfold Ef BW
 rw [Bx,Bx,Bx]
noncomputable def Uu (j:J FP) (P:Pt FP):J FP:=FG (Ef (Bq (Ef j))) (tf (CU P)) (tf (BS P))
def IF (x y:Nat) (i:Bool) (off n m:Nat):List AV:=[AJ 0 off n m,BX x y i]
def Uv (P:Pt FP):Pt FP:=Ae (CU P) (BS P) (BM P)
theorem AH1 (x y:Nat) (i:Bool) (off n m:Nat) (xs:List Int):AR Tryz.prog (AI SG3 KG) (some 0) 500 1 (some ([0,3,4,5,6,7],[0,1,2,3],4)) (Af Tryz.f22 (IF x y i off n m) (BB xs) 1 [false,false]) =
 some ([(!By (Uv (Ae x y i)),false),(BM (Ae x y i),false),(AH .i64 n,true)],[],JJ off n m xs (Ae x y i) Ut (wI (wI (64*(n:Int))-1)) []):=by kernel_rfl
def LA (Q:Pt FP) (e:Int):AV:=.tup [(true,[.num 6 (CU Q),.num 6 (BS Q),.v (.bool (BM Q))]),(false,[.v (.int .i64 e)])]
def RB (Q:Pt FP) (e:Int):AV:=.tup [(true,[.num 6 (CU Q),.num 6 (BS Q),.v (.bool (BM Q))]),(false,[.n .i64 e])]
theorem AH2 (x y:Nat) (i:Bool) (off n m:Nat) (xs:List Int):AP Tryz.prog (AI SG3 KG) Tryz.f22 500 1 [] (Af Tryz.f22 (IF x y i off n m) (BB xs) 1 [true]) =
 some ([(!By (Uv (Ae x y i)),true)],[],.tup [(true,ED false),(false,[.n .i64 120])],[]):=by kernel_rfl
theorem AH3 (x y:Nat) (i:Bool) (off n m:Nat) (xs:List Int):AP Tryz.prog (AI SG3 KG) Tryz.f22 500 1 [] (Af Tryz.f22 (IF x y i off n m) (BB xs) 1 [false,true]) =
 some ([(!By (Uv (Ae x y i)),false),(BM (Ae x y i),true)],[],RB (Ae x y i) 0,[]):=by kernel_rfl
def OY (off n:Nat) (xs:List Int) (i:Int) (CK:Bool) (r:List (Bool×Bool)):List (Bool×Bool):=(decide (0≤i),true)::(true,true)::(decide (0≤wI (Int.tdiv i 64)∧wI (Int.tdiv i 64)<n),true) ::
 (decide (off+(wI (Int.tdiv i 64)).toNat*1<xs.length),true)::(decide (0≤i∧(0:Int)<64),true)::(decide (0≤Int.tmod i 64∧0≤Bp xs off i),true)::(decide (HQ (Bp xs off i) (Int.tmod i 64)=0),CK)::r
section
variable (off n m:Nat) (xs:List Int) (P:Pt FP) (j:J FP) (i:Int)
theorem AH4:AR Tryz.prog (AI SG3 KG) (some 0) 500 1 (some ([0,3,4,5,6,7],[0,1,2,3],4)) (JJ off n m xs P (jC j) i [true,true]) =
 some (OY off n xs i true [],[],JJ off n m xs P (jC (Bq (Ef j))) (wI (i-1)) []):=by kernel_rfl
theorem AH5:AR Tryz.prog (AI SG3 KG) (some 0) 500 1 (some ([0,3,4,5,6,7],[0,1,2,3],4)) (JJ off n m xs P (jC j) i [true,false]) =
 some (OY off n xs i false [(decide ((Bq (Ef j)).z.val<pN),true),(decide (CU P<pN),true),(decide (BS P<pN),true)],[],JJ off n m xs P (jC (Uu j P)) (wI (i-1)) []):=by kernel_rfl
theorem AH6:AP Tryz.prog (AI SG3 KG) Tryz.f22 500 1 [] (JJ off n m xs P (jC j) i [false]) =
 some ([(decide (0≤i),false),(decide (j.z.val<pN),true)],[],RB (CT (Ef j)) 0,[]):=by kernel_rfl
end
theorem Z1 (off n m:Nat) (xs:List Int) (P:Pt FP) (j:J FP) (i:Int) (p:List Bool):Bs Tryz.f22.ntmps (JJ off n m xs P (jC j) i p).s:=AL (by kernel_rfl)
theorem rF (β:Env) (l:List Value) (h:AM β Ut l):AM β (jC ⟨0,0,0⟩) l:=by
 have h3:Mn Ut=some (0,0,0):=by kernel_rfl
 obtain ⟨l',q,e⟩:=OV (β':=β) (u:=.agg ⟨l⟩) h3 ⟨l,h,rfl⟩
 injection e with e;injection e with e;subst e
 exact q
def G2 (P:Pt FP) (E c:Nat) (j:J FP):Prop:=CT j=A6 (E / 2^c) P
section
variable {off n m:Nat} {xs:List Int} (hall:∀ d∈xs,0≤d∧d<18446744073709551616) (hlen:off+n≤xs.length) (hn:n≤1125899906842624) {P:Pt FP} (hP:Rg.On C1.b P) (hI:BM P=false) {β0:Env} {w0:World} (hb:∀ b,1≤b→β0 b=none)
include hall hlen hn hb hP hI
theorem AH7:∀ (c:Nat) (j:J FP),G2 P (AF (AA xs off n)) c j→c≤64*n→ASafe Tryz.prog 22 β0 w0 (Ax β0 w0 [] (RB (A6 (AF (AA xs off n)) P) 0) []) Tryz.f22.ntmps [] (JJ off n m xs P (jC j) ((c:Int)-1) []):=by
 intro c
 induction c with
 | zero =>
  intro j hj _
  have h:ASafe Tryz.prog 22 β0 w0 (Ax β0 w0 [] (RB (CT (Ef j)) 0) []) Tryz.f22.ntmps [] (JJ off n m xs P (jC j) (((0:Nat):Int)-1) [false]) :=
   Aq (AK Mo CV) AE Tryz.func22 (AH6 ..) ⟨rfl,decide_eq_true j.z.isLt,trivial⟩ (Z1 ..) hb (fun _ h=>by cases h)
  unfold G2 at hj
  rw [RA,hj,Nat.pow_zero,Nat.div_one] at h
  exact AZ [false] h
 | succ c ih =>
  intro j hj hc
  have hi:((c+1:Nat):Int)-1=(c:Int):=by omega
  rw [hi]
  have hlt:∀ d∈AA xs off n,0≤d∧d<18446744073709551616:=CS hall
  have hq:Int.tdiv (c:Int) 64=((c / 64:Nat):Int):=by rw [Int.tdiv_eq_ediv_of_nonneg (by omega)];rfl
  have hr:Int.tmod (c:Int) 64=((c % 64:Nat):Int):=by rw [Int.tmod_eq_emod_of_nonneg (by omega)];rfl
  have hw:wI (Int.tdiv (c:Int) 64)=((c / 64:Nat):Int):=by rw [hq];exact Al (by omega)
  have hjn:c / 64<n:=by omega
  have hv:Bp xs off c=(AA xs off n).getD (c / 64) 0:=by
   unfold Bp
   rw [hw,Int.toNat_natCast,Nat.mul_one]
   exact (GX hjn).symm
  have hvb:0≤Bp xs off c∧Bp xs off c<18446744073709551616:=by
   rw [hv,List.getD_eq_getElem?_getD]
   cases h:(AA xs off n)[c / 64]? with
   | none=>simp
   | some d=>exact hlt d (List.mem_of_getElem? h)
  have hbit:HQ (Bp xs off c) (Int.tmod c 64)=((AF (AA xs off n) / 2^c % 2:Nat):Int):=by
   obtain ⟨V,hV⟩:=Int.eq_ofNat_of_zero_le hvb.1
   rw [hr,← QT _ c hlt,← hv,hV,Int.toNat_natCast]
   exact QR V _ (by omega) (by omega)
  have hnext:wI ((c:Int)-1)=(c:Int)-1:=Al (by omega)
  have hconds:∀ CK r,decide (HQ (Bp xs off c) (Int.tmod c 64)=0)=CK→AQ r→AQ (OY off n xs c CK r):=by
   intro CK r hbt hr'
   refine ⟨by simp,rfl,?_,?_,?_,?_,hbt,hr'⟩
   ·rw [hw];simp;omega
   ·rw [hw];simp;omega
   ·simp
   ·simp only [decide_eq_true_eq];rw [hr];exact ⟨by omega,hvb.1⟩
  have hdiv:AF (AA xs off n) / 2^c=2*(AF (AA xs off n) / 2^(c+1))+AF (AA xs off n) / 2^c % 2:=by
   rw [Nat.pow_succ,← Nat.div_div_eq_div_mul];omega
  unfold G2 at hj
  have hoj:Rg.On C1.b (CT j):=by rw [hj];exact Gz C1 hP _
  have htw:CT (Bq (Ef j))=A6 (2*(AF (AA xs off n) / 2^(c+1))) P:=by
   rw [RA,Q' C1 hoj,hj,← OQ C1 hP,Nat.two_mul]
  rcases Nat.mod_two_eq_zero_or_one (AF (AA xs off n) / 2^c) with h0 | h1
  ·refine AZ [true,true] (Ab (AK Mo CV) AE (AH4 ..) (hconds true [] (by rw [hbit,h0];rfl) trivial) (Z1 ..) hb (fun _ h=>by cases h) fun _=>?_)
   rw [hnext]
   refine ih _ ?_ (by omega)
   unfold G2
   rw [htw,hdiv,h0];rfl
  ·refine AZ [true,false] (Ab (AK Mo CV) AE (AH5 ..) (hconds false _ (by rw [hbit,h1];rfl) ⟨decide_eq_true (Bq (Ef j)).z.isLt,decide_eq_true (K7 P),decide_eq_true (Up P),trivial⟩) (Z1 ..) hb (fun _ h=>by cases h) fun _=>?_)
   rw [hnext]
   refine ih _ ?_ (by omega)
   unfold G2 Uu
   rw [RA (Bq (Ef j)),Un C1 (by rw [htw];exact Gz C1 hP _),htw,hdiv,h1]
   cases P with
   | inf=>cases hI
   | pt a b =>
    show add _ (.pt (tf a.val) (tf b.val))=_
    rw [Bx,Bx];rfl
end
noncomputable def EE (N:Nat) (P:Pt FP):Pt FP:=if By P=true then A6 N P else .pt 0 0
noncomputable def Eg (P:Pt FP):Int:=if By P=true then 0 else 120
theorem AH8 (P:Pt FP):Uv P=P:=K8 P
theorem rG {β:Env} {Q:Pt FP} {e:Int} {u:Value} (h:AO β (RB Q e) u):AO β (LA Q e) u:=Ck (fun _ q=>q) (fun _ q=>DE rfl q) h
theorem AH9 {off n m:Nat} {xs:List Int} (hall:∀ d∈xs,0≤d∧d<18446744073709551616) (hlen:off+n≤xs.length) (hn:n≤1125899906842624) (x y:Nat) (i:Bool) :
  Ah Tryz.prog 22 (IF x y i off n m) (BB xs) 1 [] (LA (EE (AF (AA xs off n)) (Ae x y i)) (Eg (Ae x y i))) []:=by
 have e1:=AH1 x y i off n m xs
 have e2:=AH2 x y i off n m xs
 have e3:=AH3 x y i off n m xs
 rw [AH8] at e1 e2 e3
 generalize Ae x y i=P at *
 cases ho:By P with
 | false =>
  unfold EE Eg
  rw [if_neg (by rw [ho];exact Bool.false_ne_true),if_neg (by rw [ho];exact Bool.false_ne_true)]
  refine Bf (Av (path:=[true]) Tryz.func22 (by kernel_rfl) (by kernel_rfl) fun β0 w0 hb =>
   Aq (AK Mo CV) AE Tryz.func22 e2 ⟨by rw [ho];rfl,trivial⟩ (AL (by kernel_rfl)) hb (fun _ h=>by cases h)) fun β u hu=>?_
  exact Ck (fun _ q=>(GD (x:=0) (y:=0) (i:=false) (by kernel_rfl) q).1) (fun _ q=>DE rfl q) hu
 | true =>
  have hP:=(OU P).1 ho
  unfold EE Eg
  rw [if_pos ho,if_pos ho]
  cases hI:BM P with
  | true =>
   have hp:P=.inf:=by cases P with | inf=>rfl | pt a b=>cases hI
   have hs:A6 (AF (AA xs off n)) P=P:=by rw [hp,Q9]
   rw [hs]
   exact Bf (Av (path:=[false,true]) Tryz.func22 (by kernel_rfl) (by kernel_rfl) fun β0 w0 hb =>
    Aq (AK Mo CV) AE Tryz.func22 e3 ⟨by rw [ho];rfl,hI,trivial⟩ (AL (by kernel_rfl)) hb (fun _ h=>by cases h)) fun β u hu=>rG hu
  | false =>
   refine Bf (Av (path:=[false,false]) Tryz.func22 (by kernel_rfl) (by kernel_rfl) fun β0 w0 hb=>?_) fun β u hu=>rG hu
   refine Ab (AK Mo CV) AE e1 ⟨by rw [ho];rfl,hI,?_,trivial⟩ (AL (by kernel_rfl)) hb (fun _ h=>by cases h) fun _=>?_
   ·simp only [AH,Bool.and_eq_true,decide_eq_true_eq];omega
   ·have e4:wI (wI (64*(n:Int))-1)=((64*n:Nat):Int)-1:=by
     rw [Al (z:=64*(n:Int)) (by omega),Al (by omega)];omega
    rw [e4]
    refine Z0 rF (AH7 hall hlen hn hP hI hb (64*n) ⟨0,0,0⟩ ?_ (Nat.le_refl _))
    unfold G2
    have hl:=GW (AA xs off n) (CS hall)
    have hl2:AF (AA xs off n)<2^(64*n):=by
     unfold AA at hl ⊢
     rwa [List.length_take,List.length_drop,Nat.min_eq_left (by omega)] at hl
    rw [G0 rfl,Nat.div_eq_of_lt hl2];rfl
def Uw (g:List Int→Pt FP→AV):ASpec:=fun args H fr path =>
 match args with
 | [S,.val true a]=>match Bw S with
  | some (k,off,n)=>match OS a,AG H k with
   | some (x,y,i),some ⟨_,cs,_⟩=>match As .u64 cs with
    | some xs=>some (A8 [k] 1 fr 0 [] (g (AA xs off n) (Ae x y i)) [] [(Nat.ble (off+n) xs.length,true),(Nat.ble n 1125899906842624,true)] path)
    | none=>none
   | _,_=>none
  | none=>none
 | _=>none
theorem rH {f:FuncId} {fn:Func} {g:List Int→Pt FP→AV} (hfn:Tryz.prog.funcs[f]? = some fn) (hb:fn.body.isSome=true) (hname:(fn.name=="runtime.NumGoroutine")=false) (hk:∀ l P,C6 1 0 [] (g l P) []=true)
  (h:∀ (off n m:Nat) (xs:List Int) (x y:Nat) (i:Bool),(∀ d∈xs,0≤d∧d<18446744073709551616)→off+n≤xs.length→n≤1125899906842624→Ah Tryz.prog f (IF x y i off n m) (BB xs) 1 [] (g (AA xs off n) (Ae x y i)) []):A7 Tryz.prog f (Uw g):=by
 refine CG hfn hb hname fun args H fr path r hs=>?_
 unfold Uw at hs
 split at hs
 case h_2=>cases hs
 rename_i S a
 split at hs
 case h_2=>cases hs
 rename_i k off n hS
 split at hs
 case h_2=>cases hs
 rename_i x y i ty cs o hx hk'
 split at hs
 case h_2=>cases hs
 rename_i xs hxs
 injection hs with hs
 refine ⟨[k],1,0,[],_,_,_,path,hs.symm,fun β us w ha hg hc=>?_⟩
 obtain ⟨u1,us1,r1,⟨u2,us2,r2,ha,rfl⟩,rfl⟩:=ha
 obtain ⟨m,r1⟩:=C3 hS r1
 obtain ⟨g1,g2,g3⟩:=H6 hg hk' hxs
 exact ⟨IF x y i off n m,BB xs,h off n m xs x y i g1 (Nat.le_of_ble_eq_true hc.1) (Nat.le_of_ble_eq_true hc.2.1),hk _ _,⟨u1,_,Bl (by omega) rfl r1,⟨u2,us2,(GD hx r2).1,ha,rfl⟩,rfl⟩,g2,g3⟩
noncomputable def SG4:List (FuncId×ASpec):=(22,ES (Uw fun l P=>LA (EE (AF l) P) (Eg P)))::SG3
theorem OZ:AU Tryz.prog SG4:=⟨E8 (rH Tryz.func22 (by kernel_rfl) (by kernel_rfl) (fun _ _=>by kernel_rfl) fun _ _ _ _ x y i hx hl hn=>AH9 hx hl hn x y i),Mo⟩
def Z2:List AV→Option AV
 | [.val false [.n .u64 i]]=>some (.val true [.n .u64 i,.n .u64 0,.n .u64 0,.n .u64 0,.n .u64 0,.n .u64 0])
 | _=>none
theorem AH_ (i:Int):Ac Tryz.prog (AI SG4 KG) Tryz.f188 [.val false [.n .u64 i]] [] 100=some ([],.val true [.n .u64 i,.n .u64 0,.n .u64 0,.n .u64 0,.n .u64 0,.n .u64 0]):=by kernel_rfl
theorem AH':∀ args v,Z2 args=some v→AX Tryz.prog 188 args v:=by
 intro args v hs
 unfold Z2 at hs
 split at hs
 case h_2=>cases hs
 rename_i i
 injection hs with hs;subst hs
 exact Ag (AK OZ CV) AE Tryz.func188 (AH_ i) trivial rfl
theorem AIA:Ac Tryz.prog (AI SG4 KG) Tryz.f241 [] [] 100=some ([],.val true [.n .u64 4,.n .u64 0,.n .u64 0,.n .u64 0,.n .u64 0,.n .u64 0]):=by kernel_rfl
theorem AIB:AX Tryz.prog 241 [] (AW 4):=C_ (Ag (AK OZ CV) AE Tryz.func241 AIA trivial rfl) fun u hu=>QP (by kernel_rfl) hu
theorem AIC:Ac Tryz.prog (AI SG4 KG) Tryz.f119 [] [] 100=some ([],.val true gC):=by kernel_rfl
theorem AID:AX Tryz.prog 119 [] (GE G1B):=by
 rw [← qS]
 exact JH (Ag (AK OZ CV) AE Tryz.func119 AIC trivial rfl) (by kernel_rfl)
theorem AIE (x y:Nat) (i:Bool):Ac Tryz.prog (AI SG4 KG) Tryz.f185 [BX x y i] [true] 300=some ([(i,true)],.val true (ED true)):=by kernel_rfl
theorem AIF (x y:Nat) (i:Bool):Ac Tryz.prog (AI SG4 KG) Tryz.f185 [BX x y i] [false] 300=some ([(i,false)],.val true [.num 6 (x % pN),.num 6 (y % pN),.b false]):=by kernel_rfl
theorem AIG (x y:Nat) (i:Bool):AX Tryz.prog 185 [BX x y i] (GE (Ae x y i)):=by
 cases i with
 | true=>exact JH (Ag (AK OZ CV) AE Tryz.func185 (AIE x y true) ⟨rfl,trivial⟩ rfl) (by kernel_rfl)
 | false=>exact JH (Ag (AK OZ CV) AE Tryz.func185 (AIF x y false) ⟨rfl,trivial⟩ rfl) (by kernel_rfl)
noncomputable def SR0:List (FuncId×ASpec):=(188,Ar Z2)::(241,Ar fun args=>match args with | []=>some (AW 4) | _=>none)::(119,Ar fun args=>match args with | []=>some (GE G1B) | _=>none)::(185,Ar (K9 GE))::SG4
theorem Z3:AU Tryz.prog SR0:=⟨Au Tryz.func188 (by kernel_rfl) (by kernel_rfl) AH',Au Tryz.func241 (by kernel_rfl) (by kernel_rfl) (MP AIB fun u h=>h),Au Tryz.func119 (by kernel_rfl) (by kernel_rfl) (MP AID fun u h=>h),Au Tryz.func185 (by kernel_rfl) (by kernel_rfl) (OT AIG),OZ⟩
theorem AIH (x y:Nat) (i:Bool):Ac Tryz.prog (AI SR0 KG) Tryz.f184 [BX x y i] [true] 300=some ([(i,true)],.val false [.b true]):=by kernel_rfl
theorem AII (x y:Nat) (i:Bool):Ac Tryz.prog (AI SR0 KG) Tryz.f184 [BX x y i] [false] 300=some ([(i,false)],BV (decide (Aa y y=Cq (Aa (Aa x x) x) 4))):=by kernel_rfl
theorem AIJ (x y:Nat) (i:Bool):AX Tryz.prog 184 [BX x y i] (BV (By (Ae x y i))):=by
 cases i with
 | true=>exact C_ (Ag (AK Z3 CV) AE Tryz.func184 (AIH x y true) ⟨rfl,trivial⟩ rfl) fun u hu=>Kq rfl hu
 | false=>rw [← Zw];exact Ag (AK Z3 CV) AE Tryz.func184 (AII x y false) ⟨rfl,trivial⟩ rfl
section
variable (x y:Nat) (i:Bool) (x' y':Nat) (i':Bool)
end
noncomputable def SR1:List (FuncId×ASpec):=(184,Ar (K9 fun P=>BV (By P)))::SR0
theorem rI:AU Tryz.prog SR1:=⟨Au Tryz.func184 (by kernel_rfl) (by kernel_rfl) (OT AIJ),Z3⟩
theorem rJ:tf 2=1+1:=by rw [← FY,← FX]
theorem AIK:tf 3=1+1+1:=by rw [← FY,← FX,← FX]
theorem rK:tf 4=1+1+(1+1):=by rw [← rJ,← FX]
theorem AIL:tf 8=1+1+(1+1)+(1+1+(1+1)):=by rw [← rK,← FX]
section
variable (x y:Nat) (i:Bool) (x' y':Nat) (i':Bool)
end
def sD (x y:Nat):Nat:=Aa 4 (Aa x (Aa y y))
def sE (x:Nat):Nat:=Aa 3 (Aa x x)
def sX (x y:Nat):Nat:=C9 (Aa (sE x) (sE x)) (Cq (sD x y) (sD x y))
def sY (x y:Nat):Nat:=C9 (Aa (sE x) (C9 (sD x y) (sX x y))) (Aa 8 (Aa (Aa y y) (Aa y y)))
theorem AIM (x y z:Nat):Ac Tryz.prog (AI SR1 KG) Tryz.f186 [Cc x y z] [] 500=some ([],Cc (sX x y) (sY x y) (Aa 2 (Aa y z))):=by kernel_rfl
theorem rL (x y:Nat):tf (sD x y)=jD (tf x) (tf y):=by unfold sD jD;rw [Bk,Bk,Bk,rK];grind
theorem rM (x:Nat):tf (sE x)=jE (tf x):=by unfold sE jE;rw [Bk,Bk,AIK];grind
theorem rO (x y:Nat):tf (sX x y)=jX (tf x) (tf y):=by unfold sX jX;rw [FE,Bk,Gw,rL,rM]
theorem AIN (y:Nat):tf (Aa 8 (Aa (Aa y y) (Aa y y)))=Q_ (tf y):=by unfold Q_ Um jC2;rw [Bk,Bk,Bk,AIL];grind
theorem AIO (x y z:Nat):AX Tryz.prog 186 [Cc x y z] (G1 (Bq (BW x y z))):=by
 rw [← K_ (j:=Bq (BW x y z)) (x:=sX x y) (y:=sY x y) (z:=Aa 2 (Aa y z)) (FF _ _) (FF _ _) (I4 _ _) (rO x y) (by unfold sY;rw [FE,Bk,FE,rO,rL,rM,AIN];rfl)
  (by rw [Bk,Bk,rJ];show _=tf y*tf z+tf y*tf z;grind)]
 exact Ag (AK rI CV) AE Tryz.func186 (AIM x y z) trivial rfl
noncomputable def SR2:List (FuncId×ASpec):=(186,Ar (Ur fun j=>G1 (Bq j)))::SR1
theorem RC:AU Tryz.prog SR2:=⟨Au Tryz.func186 (by kernel_rfl) (by kernel_rfl) (rA AIO),rI⟩
section
variable (x y z a b:Nat) (i:Bool)
theorem AIP:Ac Tryz.prog (AI SR2 KG) Tryz.f187 [Cc x y z,BX a b i] [true] 500=some ([(decide (z=0),true)],.val true (.num 6 a::.num 6 b::Ze)):=by kernel_rfl
theorem AIQ:Ac Tryz.prog (AI SR2 KG) Tryz.f187 [Cc x y z,BX a b i] [false,true,true] 500=some ([(decide (z=0),false),(decide (nH x z a=0),true),(decide (nR y z b=0),true)],G1 (Bq (BW x y z))):=by kernel_rfl
theorem AIR:Ac Tryz.prog (AI SR2 KG) Tryz.f187 [Cc x y z,BX a b i] [false,true,false] 500=some ([(decide (z=0),false),(decide (nH x z a=0),true),(decide (nR y z b=0),false)],.val true (List.replicate 18 (.n .u64 0))):=by kernel_rfl
theorem AIS:Ac Tryz.prog (AI SR2 KG) Tryz.f187 [Cc x y z,BX a b i] [false,false] 500=some ([(decide (z=0),false),(decide (nH x z a=0),false)],Cc (JI x (nH x z a) (nR y z b)) (OW x y (nH x z a) (nR y z b)) (Aa z (nH x z a))):=by kernel_rfl
end
theorem AIT {x y z a b:Nat} {i:Bool} (hz:z<pN) (ha:a<pN) (hb:b<pN):AX Tryz.prog 187 [Cc x y z,BX a b i] (G1 (FG (BW x y z) (tf a) (tf b))):=by
 have eh:=rB x y z a
 have er:=rC x y z b
 have zh:=IE (n:=nH x z a) (FF _ _)
 have zr:=IE (n:=nR y z b) (FF _ _)
 rw [eh] at zh
 rw [er] at zr
 unfold FG
 by_cases h0:z=0
 ·rw [if_pos (show (BW x y z).z=0 from (IE hz).1 h0),← K_ (j:=⟨tf a,tf b,1⟩) ha hb (show 1<pN by decide) rfl rfl FY]
  exact Us (Ag (AK RC CV) AE Tryz.func187 (AIP x y z a b i) ⟨decide_eq_true h0,trivial⟩ rfl) rfl
 ·rw [if_neg (show ¬ (BW x y z).z=0 from fun e=>h0 ((IE hz).2 e))]
  by_cases hh:nH x z a=0
  ·rw [if_pos (zh.1 hh)]
   by_cases hr:nR y z b=0
   ·rw [if_pos (zr.1 hr)]
    exact Ag (AK RC CV) AE Tryz.func187 (AIQ x y z a b i) ⟨decide_eq_false h0,decide_eq_true hh,decide_eq_true hr,trivial⟩ rfl
   ·rw [if_neg (fun e=>hr (zr.2 e)),← K_ (j:=⟨0,0,0⟩) CM CM CM tf_zero tf_zero tf_zero]
    exact Us (Ag (AK RC CV) AE Tryz.func187 (AIR x y z a b i) ⟨decide_eq_false h0,decide_eq_true hh,decide_eq_false hr,trivial⟩ rfl) (by kernel_rfl)
  ·rw [if_neg (fun e=>hh (zh.2 e)),← K_ (j:=⟨pX (BW x y z).x (pH (BW x y z) (tf a)) (pR (BW x y z) (tf b)),pY (BW x y z).x (BW x y z).y (pH (BW x y z) (tf a)) (pR (BW x y z) (tf b)),(BW x y z).z*pH (BW x y z) (tf a)⟩)
    (x:=JI x (nH x z a) (nR y z b)) (y:=OW x y (nH x z a) (nR y z b)) (z:=Aa z (nH x z a)) (FF _ _) (FF _ _) (I4 _ _) ?_ ?_ ?_]
   ·exact Ag (AK RC CV) AE Tryz.func187 (AIS x y z a b i) ⟨decide_eq_false h0,decide_eq_false hh,trivial⟩ rfl
   ·unfold JI pX;simp only [FE,Bk,Gw,eh,er];rfl
   ·unfold OW JI pY pX;simp only [FE,Bk,Gw,eh,er];rfl
   ·rw [Bk,eh];rfl
theorem AIU {f:FuncId} (h:∀ (x y z a b:Nat) (i:Bool),z<pN→a<pN→b<pN→AX Tryz.prog f [Cc x y z,BX a b i] (G1 (FG (BW x y z) (tf a) (tf b)))):∀ args c v,OX args=some (c,v)→AQ c→AX Tryz.prog f args v:=by
 intro args c v hs hc us w ha
 unfold OX at hs
 split at hs
 case h_2=>cases hs
 rename_i a b
 split at hs
 case h_2=>cases hs
 rename_i x y z p q i hx hy
 injection hs with hs;injection hs with h1 h2;subst h1;subst h2
 obtain ⟨u1,us1,r1,⟨u2,us2,r2,ha,rfl⟩,rfl⟩:=ha
 exact h x y z p q i (of_decide_eq_true hc.1) (of_decide_eq_true hc.2.1) (of_decide_eq_true hc.2.2.1) _ w ⟨u1,_,OV hx r1,⟨u2,_,(GD hy r2).1,ha,rfl⟩,rfl⟩
noncomputable def SR3:List (FuncId×ASpec):=(187,DI OX)::SR2
theorem LB:AU Tryz.prog SR3:=⟨Di Tryz.func187 (by kernel_rfl) (by kernel_rfl) (AIU fun _ _ _ _ _ _=>AIT),RC⟩
noncomputable def SN:List (FuncId×ASpec):=SR3
theorem AIV:AU Tryz.prog SN:=LB
def AIW:List AV→Option AV
 | []=>some (.val false [.b true])
 | _=>none
noncomputable def SA12:List (FuncId×ASpec):=SN
theorem AIX:AU Tryz.prog SA12:=AIV
noncomputable def AIY:List Item:=Bh (AR Tryz.prog (AI SR3 KG) (some 0) 500 1 none (Af Tryz.f118 [AJ 0 0 0 0,BX 0 0 false] (BB []) 1 [false,false]))
noncomputable def qmT (off n m:Nat) (i:Int):List AV:=.val false [.sl 0 off n m]::.any::.any::.val false [.p 1 0]::.val false [.p 2 0]::.val false [.n .i64 0]::.any::.val false [.p 3 0]::.val false [.p 4 0]::.val false [.v (.int .i64 i)]::List.replicate (Tryz.f118.ntmps-10) .any
noncomputable def qmH (xs:List Int) (x y:Nat) (b:Bool) (P:Pt FP):Heap:=[(0,some (Ad [.seq .u64 xs])),(1,some ⟨32,[.num 6 x,.num 6 y,.v (.bool b)],false⟩),(2,some ⟨32,ED false,false⟩),(3,some ⟨32,[.num 6 (CU P),.num 6 (BS P),.v (.bool (BM P))],false⟩)]
noncomputable def JK (x y:Nat) (b:Bool) (off n m:Nat) (xs:List Int) (P:Pt FP) (out:List Ch) (i:Int) (path:List Bool):ASt:=⟨AIY,⟨qmT off n m i,List.append (qmH xs x y b P) [(4,some ⟨189,out,false⟩)],5,path⟩⟩
theorem AIb (x y:Nat) (i:Bool) (off n m:Nat) (xs:List Int):AR Tryz.prog (AI SR3 KG) (some 0) 500 1 (some ([0,3,4,5,7,8,9],[0,1,2,3,4],5)) (Af Tryz.f118 (IF x y i off n m) (BB xs) 1 [false,false]) =
 some ([(!By (Ae x y i),false),(i,false),(AH .i64 n,true)],[],JK x y i off n m xs (Ae x y i) Ut (wI (wI (64*(n:Int))-1)) []):=by kernel_rfl
theorem AIc (x y:Nat) (i:Bool) (off n m:Nat) (xs:List Int):AP Tryz.prog (AI SR3 KG) Tryz.f118 500 1 [] (Af Tryz.f118 (IF x y i off n m) (BB xs) 1 [true]) =
 some ([(!By (Ae x y i),true)],[],.tup [(true,ED false),(false,[.n .i64 120])],[]):=by kernel_rfl
theorem AId (x y:Nat) (i:Bool) (off n m:Nat) (xs:List Int):AP Tryz.prog (AI SR3 KG) Tryz.f118 500 1 [] (Af Tryz.f118 (IF x y i off n m) (BB xs) 1 [false,true]) =
 some ([(!By (Ae x y i),false),(i,true)],[],.tup [(true,ED true),(false,[.n .i64 0])],[]):=by kernel_rfl
def Z4 (off n:Nat) (xs:List Int) (i:Int) (CK:Bool) (r:List (Bool×Bool)):List (Bool×Bool):=(decide (0≤i),true)::(true,true)::(decide (0≤wI (Int.tdiv i 64)∧wI (Int.tdiv i 64)<n),true) ::
 (decide (off+(wI (Int.tdiv i 64)).toNat*1<xs.length),true)::(decide (0≤i∧(0:Int)<64),true)::(decide (0≤AN false .u64 (Int.tmod i 64)∧0≤Bp xs off i),true)::(decide (JB xs off i=1),CK)::r
section
variable (x y:Nat) (b:Bool) (off n m:Nat) (xs:List Int) (P:Pt FP) (j:J FP) (i:Int)
theorem AIe:AR Tryz.prog (AI SR3 KG) (some 0) 500 1 (some ([0,3,4,5,7,8,9],[0,1,2,3,4],5)) (JK x y b off n m xs P (jC j) i [true,false]) =
 some (Z4 off n xs i false [],[],JK x y b off n m xs P (jC (Bq (Ef j))) (wI (i-1)) []):=by kernel_rfl
theorem AIf:AR Tryz.prog (AI SR3 KG) (some 0) 500 1 (some ([0,3,4,5,7,8,9],[0,1,2,3,4],5)) (JK x y b off n m xs P (jC j) i [true,true]) =
 some (Z4 off n xs i true [(decide ((Bq (Ef j)).z.val<pN),true),(decide (CU P<pN),true),(decide (BS P<pN),true)],[],JK x y b off n m xs P (jC (Uu j P)) (wI (i-1)) []):=by kernel_rfl
theorem AIg:AP Tryz.prog (AI SR3 KG) Tryz.f118 500 1 [] (JK x y b off n m xs P (jC j) i [false,true]) =
 some ([(decide (0≤i),false),(decide (j.z.val=0),true)],[],.tup [(true,ED true),(false,[.n .i64 0])],[]):=by kernel_rfl
theorem AIh:AP Tryz.prog (AI SR3 KG) Tryz.f118 500 1 [] (JK x y b off n m xs P (jC j) i [false,false]) =
 some ([(decide (0≤i),false),(decide (j.z.val=0),false)],[],.tup [(true,[.num 6 (Aa j.x.val (Aa (BO j.z.val) (BO j.z.val))),.num 6 (Aa j.y.val (Aa (Aa (BO j.z.val) (BO j.z.val)) (BO j.z.val))),.b false]),(false,[.n .i64 0])],[]):=by kernel_rfl
end
theorem Ux (x y:Nat) (b:Bool) (off n m:Nat) (xs:List Int) (P:Pt FP) (j:J FP) (i:Int) (p:List Bool):Bs Tryz.f118.ntmps (JK x y b off n m xs P (jC j) i p).s:=AL (by kernel_rfl)
def Z5 (Q:Pt FP):AV:=match Q with
 | .inf=>.tup [(true,ED true),(false,[.n .i64 0])]
 | .pt a b=>.tup [(true,[.num 6 a.val,.num 6 b.val,.b false]),(false,[.n .i64 0])]
section
variable {off n m:Nat} {xs:List Int} (hall:∀ d∈xs,0≤d∧d<18446744073709551616) (hlen:off+n≤xs.length) (hn:n≤1125899906842624) {x y:Nat} {b:Bool} {P:Pt FP} (hP:Rg.On C1.b P) (hI:BM P=false) {β0:Env} {w0:World} (hb:∀ b,1≤b→β0 b=none)
include hall hlen hn hb hP hI
theorem AIi:∀ (c:Nat) (j:J FP),G2 P (AF (AA xs off n)) c j→c≤64*n→ASafe Tryz.prog 118 β0 w0 (Ax β0 w0 [] (Z5 (A6 (AF (AA xs off n)) P)) []) Tryz.f118.ntmps [] (JK x y b off n m xs P (jC j) ((c:Int)-1) []):=by
 intro c
 induction c with
 | zero =>
  intro j hj _
  unfold G2 at hj
  rw [Nat.pow_zero,Nat.div_one] at hj
  rw [← hj]
  by_cases h0:j.z.val=0
  ·have hz:j.z=0:=Uq.1 h0
   rw [G0 hz]
   exact AZ [false,true] (Aq (AK LB CV) AE Tryz.func118 (AIg ..) ⟨rfl,decide_eq_true h0,trivial⟩ (Ux ..) hb (fun _ h=>by cases h))
  ·have hz:j.z≠0:=fun e=>h0 (Uq.2 e)
   rw [ID hz]
   have e:Z5 (.pt (j.x*(FD.inv j.z*FD.inv j.z)) (j.y*((FD.inv j.z*FD.inv j.z)*FD.inv j.z)))=.tup [(true,[.num 6 (Aa j.x.val (Aa (BO j.z.val) (BO j.z.val))),.num 6 (Aa j.y.val (Aa (Aa (BO j.z.val) (BO j.z.val)) (BO j.z.val))),.b false]),(false,[.n .i64 0])]:=by
    have ei:tf (BO j.z.val)=FD.inv j.z:=by rw [qU j.z.isLt,Bx];rfl
    have e1:Aa j.x.val (Aa (BO j.z.val) (BO j.z.val))=(j.x*(FD.inv j.z*FD.inv j.z):FP).val:=I9 (I4 _ _) (Fin.isLt _) (by rw [Bk,Bk,ei,Bx,Bx])
    have e2:Aa j.y.val (Aa (Aa (BO j.z.val) (BO j.z.val)) (BO j.z.val))=(j.y*((FD.inv j.z*FD.inv j.z)*FD.inv j.z):FP).val:=I9 (I4 _ _) (Fin.isLt _) (by rw [Bk,Bk,Bk,ei,Bx,Bx])
    rw [e1,e2];rfl
   rw [e]
   exact AZ [false,false] (Aq (AK LB CV) AE Tryz.func118 (AIh ..) ⟨rfl,decide_eq_false h0,trivial⟩ (Ux ..) hb (fun _ h=>by cases h))
 | succ c ih =>
  intro j hj hc
  have hi:((c+1:Nat):Int)-1=(c:Int):=by omega
  rw [hi]
  have hlt:∀ d∈AA xs off n,0≤d∧d<18446744073709551616:=CS hall
  have hq:Int.tdiv (c:Int) 64=((c / 64:Nat):Int):=by rw [Int.tdiv_eq_ediv_of_nonneg (by omega)];rfl
  have hr:Int.tmod (c:Int) 64=((c % 64:Nat):Int):=by rw [Int.tmod_eq_emod_of_nonneg (by omega)];rfl
  have hw:wI (Int.tdiv (c:Int) 64)=((c / 64:Nat):Int):=by rw [hq];exact Al (by omega)
  have hjn:c / 64<n:=by omega
  have hv:Bp xs off c=(AA xs off n).getD (c / 64) 0:=by
   unfold Bp
   rw [hw,Int.toNat_natCast,Nat.mul_one]
   exact (GX hjn).symm
  have hvb:0≤Bp xs off c∧Bp xs off c<18446744073709551616:=by
   rw [hv,List.getD_eq_getElem?_getD]
   cases h:(AA xs off n)[c / 64]? with
   | none=>simp
   | some d=>exact hlt d (List.mem_of_getElem? h)
  obtain ⟨hq1,hq2⟩:=US xs off c
  have hbit:JB xs off c=((AF (AA xs off n) / 2^c % 2:Nat):Int):=by
   rw [hq1]
   obtain ⟨V,hV⟩:=Int.eq_ofNat_of_zero_le hvb.1
   rw [hr,← QT _ c hlt,← hv,hV,Int.toNat_natCast]
   exact QR V _ (by omega) (by omega)
  have hnext:wI ((c:Int)-1)=(c:Int)-1:=Al (by omega)
  have hconds:∀ CK r,decide (JB xs off c=1)=CK→AQ r→AQ (Z4 off n xs c CK r):=by
   intro CK r hbt hr'
   refine ⟨by simp,rfl,?_,?_,?_,?_,hbt,hr'⟩
   ·rw [hw];simp;omega
   ·rw [hw];simp;omega
   ·simp
   ·simp only [decide_eq_true_eq];rw [hq2,hr];exact ⟨by omega,hvb.1⟩
  have hdiv:AF (AA xs off n) / 2^c=2*(AF (AA xs off n) / 2^(c+1))+AF (AA xs off n) / 2^c % 2:=by
   rw [Nat.pow_succ,← Nat.div_div_eq_div_mul];omega
  unfold G2 at hj
  have hoj:Rg.On C1.b (CT j):=by rw [hj];exact Gz C1 hP _
  have htw:CT (Bq (Ef j))=A6 (2*(AF (AA xs off n) / 2^(c+1))) P:=by
   rw [RA,Q' C1 hoj,hj,← OQ C1 hP,Nat.two_mul]
  rcases Nat.mod_two_eq_zero_or_one (AF (AA xs off n) / 2^c) with h0 | h1
  ·refine AZ [true,false] (Ab (AK LB CV) AE (AIe ..) (hconds false [] (by rw [hbit,h0];rfl) trivial) (Ux ..) hb (fun _ h=>by cases h) fun _=>?_)
   rw [hnext]
   refine ih _ ?_ (by omega)
   unfold G2
   rw [htw,hdiv,h0];rfl
  ·refine AZ [true,true] (Ab (AK LB CV) AE (AIf ..) (hconds true _ (by rw [hbit,h1];rfl) ⟨decide_eq_true (Bq (Ef j)).z.isLt,decide_eq_true (K7 P),decide_eq_true (Up P),trivial⟩) (Ux ..) hb (fun _ h=>by cases h) fun _=>?_)
   rw [hnext]
   refine ih _ ?_ (by omega)
   unfold G2 Uu
   rw [RA (Bq (Ef j)),Un C1 (by rw [htw];exact Gz C1 hP _),htw,hdiv,h1]
   cases P with
   | inf=>cases hI
   | pt a b =>
    show add _ (.pt (tf a.val) (tf b.val))=_
    rw [Bx,Bx];rfl
end
theorem rP {β:Env} {Q:Pt FP} {u:Value} (h:AO β (Z5 Q) u):AO β (LA Q 0) u:=by
 cases Q with
 | inf=>exact Ck (fun _ q=>(GD (x:=0) (y:=0) (i:=true) (by kernel_rfl) q).1) (fun _ q=>DE rfl q) h
 | pt a b=>exact Ck (fun _ q=>(GD (x:=a.val) (y:=b.val) (i:=false) rfl q).1) (fun _ q=>DE rfl q) h
theorem AIj {off n m:Nat} {xs:List Int} (hall:∀ d∈xs,0≤d∧d<18446744073709551616) (hlen:off+n≤xs.length) (hn:n≤1125899906842624) (x y:Nat) (i:Bool) :
  Ah Tryz.prog 118 (IF x y i off n m) (BB xs) 1 [] (LA (EE (AF (AA xs off n)) (Ae x y i)) (Eg (Ae x y i))) []:=by
 have e1:=AIb x y i off n m xs
 have e2:=AIc x y i off n m xs
 have e3:=AId x y i off n m xs
 cases ho:By (Ae x y i) with
 | false =>
  unfold EE Eg
  rw [if_neg (by rw [ho];exact Bool.false_ne_true),if_neg (by rw [ho];exact Bool.false_ne_true)]
  refine Bf (Av (path:=[true]) Tryz.func118 (by kernel_rfl) (by kernel_rfl) fun β0 w0 hb =>
   Aq (AK LB CV) AE Tryz.func118 e2 ⟨by rw [ho];rfl,trivial⟩ (AL (by kernel_rfl)) hb (fun _ h=>by cases h)) fun β u hu=>?_
  exact Ck (fun _ q=>(GD (x:=0) (y:=0) (i:=false) (by kernel_rfl) q).1) (fun _ q=>DE rfl q) hu
 | true =>
  have hP:=(OU _).1 ho
  unfold EE Eg
  rw [if_pos ho,if_pos ho]
  cases i with
  | true =>
   rw [show Ae x y true=.inf from rfl,Q9]
   exact Bf (Av (path:=[false,true]) Tryz.func118 (by kernel_rfl) (by kernel_rfl) fun β0 w0 hb =>
    Aq (AK LB CV) AE Tryz.func118 e3 ⟨by rw [ho];rfl,rfl,trivial⟩ (AL (by kernel_rfl)) hb (fun _ h=>by cases h)) fun β u hu=>rP (Q:=.inf) hu
  | false =>
   refine Bf (Av (path:=[false,false]) Tryz.func118 (by kernel_rfl) (by kernel_rfl) fun β0 w0 hb=>?_) fun β u hu=>rP hu
   refine Ab (AK LB CV) AE e1 ⟨by rw [ho];rfl,rfl,?_,trivial⟩ (AL (by kernel_rfl)) hb (fun _ h=>by cases h) fun _=>?_
   ·simp only [AH,Bool.and_eq_true,decide_eq_true_eq];omega
   ·have e4:wI (wI (64*(n:Int))-1)=((64*n:Nat):Int)-1:=by
     rw [Al (z:=64*(n:Int)) (by omega),Al (by omega)];omega
    rw [e4]
    refine Z0 rF (AIi hall hlen hn hP rfl hb (64*n) ⟨0,0,0⟩ ?_ (Nat.le_refl _))
    unfold G2
    have hl:=GW (AA xs off n) (CS hall)
    have hl2:AF (AA xs off n)<2^(64*n):=by
     unfold AA at hl ⊢
     rwa [List.length_take,List.length_drop,Nat.min_eq_left (by omega)] at hl
    rw [G0 rfl,Nat.div_eq_of_lt hl2];rfl
noncomputable def SR4:List (FuncId×ASpec):=(118,ES (Uw fun l P=>LA (EE (AF l) P) (Eg P)))::SA12
theorem AIk:AU Tryz.prog SR4:=⟨E8 (rH Tryz.func118 (by kernel_rfl) (by kernel_rfl) (fun _ _=>by kernel_rfl) fun _ _ _ _ x y i hx hl hn=>AIj hx hl hn x y i),AIX⟩
end Go.Proofs.YtjlcdlekmpjjnaaGreat
namespace Go.Proofs.YtjlcdlekmpjjnaaGreat
open Ex Num
set_option maxRecDepth 100000
set_option maxHeartbeats 4000000
noncomputable abbrev JL:Orc:=AI S22 K0
def Mp (ls ms:List Int):Heap:=[(0,some ⟨24,[.seq .u64 ls],false⟩),(1,some (Ad [.seq .u64 ms]))]
def Uy (n m N M:Nat):List AV:=[.val false [.sl 0 0 N M],.val false [.sl 1 0 n m],.val false [.v (.int .i64 (n:Int))]]
noncomputable def AIl:List Item:=Bh (AR Tryz.prog JL (some 0) 100 2 none (Af Tryz.f212 (Uy 0 0 0 0) (Mp [] []) 2 []))
noncomputable def tkT (n m N M:Nat):List AV:=.val false [.sl 0 0 N M]::.val false [.sl 1 0 n m]::.val false [.v (.int .i64 n)]::List.replicate (Tryz.f212.ntmps-3) .any
noncomputable def JM (ls ms:List Int) (n m N M:Nat) (p:List Bool):ASt:=⟨AIl,⟨tkT n m N M,Mp ls ms,2,p⟩⟩
noncomputable def rR:List Item:=Bh (AR Tryz.prog JL (some 0) 200 2 none (JM [] [] 0 0 0 0 [true,true]))
noncomputable def RD (n m N M:Nat) (q b i c:Ch):List AV:=.val false [.sl 0 0 N M]::.val false [.sl 1 0 n m]::.val false [.v (.int .i64 n)]::.any::.any::.any::.val false [q]::.any::.val false [b]::.val false [i]::.val false [c]::List.replicate (Tryz.f212.ntmps-11) .any
noncomputable def Oi (ls ms:List Int) (n m N M:Nat) (q b i c:Int) (p:List Bool):ASt:=⟨rR,⟨RD n m N M (.v (.int .u64 q)) (.v (.int .u64 b)) (.v (.int .i64 i)) (.v (.int .u64 c)),Mp ls ms,2,p⟩⟩
noncomputable def Uz (ls ms:List Int) (n m N M:Nat) (q:Ch):ASt:=⟨rR,⟨RD n m N M q (.n .u64 0) (.n .i64 0) (.n .u64 0),Mp ls ms,2,[]⟩⟩
abbrev kA:Option (List Nat×List Nat×Nat):=some ([0,1,2],[0,1],2)
abbrev kB:Option (List Nat×List Nat×Nat):=some ([0,1,2,6,8,9,10],[0,1],2)
def U0 (x:Int):Int:=if 1 > x then 1 else x
def nI (n:Nat):Int:=wI ((n:Int)-1)
def JN (ms:List Int) (n:Nat):Int:=ms.getD (0+(nI n).toNat*1) 0
def LC (ls:List Int) (n:Nat):Int:=ls.getD (0+(n:Int).toNat*1) 0
def Z6 (ls ms:List Int) (n:Nat):Int:=(((LC ls n).toNat*Bv+(ls.getD (0+(nI n).toNat*1) 0).toNat) / (mW (JN ms n+1)).toNat:Nat)
section
variable (ls ms:List Int) (n m N M:Nat) (q b i c:Int)
def RE (d:Bool) (r:List (Bool×Bool)):List (Bool×Bool):=(Nat.ble (0+N) ls.length,true)::(Nat.ble (0+n) ms.length,true)::(AH .i64 N,true)::(AH .i64 n,true)::(decide (0≤Cb (AF (AA ls 0 N)) (AF (AA ms 0 n))),d)::r
def U1 (d:Bool) (r:List (Bool×Bool)):List (Bool×Bool):=(decide (0≤nI n∧nI n<n),true)::(decide (0+(nI n).toNat*1<ms.length),true)::(decide (mW (JN ms n+1)=0),d)::(decide (0≤(n:Int)∧(n:Int)<N),true)::(decide (0+(n:Int).toNat*1<ls.length),true)::r
theorem AIn:AR Tryz.prog JL (some 0) 100 2 kA (Af Tryz.f212 (Uy n m N M) (Mp ls ms) 2 [])=some ([],[],JM ls ms n m N M []):=by kernel_rfl
theorem AIo:AR Tryz.prog JL (some 0) 200 2 kB (JM ls ms n m N M [true,true])=some (RE ls ms n N true (U1 ls ms n N true []),[],Uz ls ms n m N M (.v (.int .u64 (U0 (LC ls n))))):=by kernel_rfl
theorem AIp:AR Tryz.prog JL (some 0) 200 2 kB (JM ls ms n m N M [true,false,true])=some (RE ls ms n N true (U1 ls ms n N false [(decide (LC ls n<mW (JN ms n+1)),true),(decide (0≤(n:Int)∧(n:Int)<N),true),(decide (0+(n:Int).toNat*1<ls.length),true),
 (decide (0≤nI n∧nI n<N),true),(decide (0+(nI n).toNat*1<ls.length),true),(decide (LC ls n<mW (JN ms n+1)),true)]),[],Uz ls ms n m N M (.v (.int .u64 (U0 (Z6 ls ms n))))):=by kernel_rfl
theorem AIq:AR Tryz.prog JL (some 0) 200 2 kB (JM ls ms n m N M [true,false,false])=some (RE ls ms n N true (U1 ls ms n N false [(decide (LC ls n<mW (JN ms n+1)),false)]),[],Uz ls ms n m N M (.n .u64 1)):=by kernel_rfl
theorem AIr:AP Tryz.prog JL Tryz.f212 200 2 [0] (JM ls ms n m N M [false])=some (RE ls ms n N false [],[],.tup [],[(0,some ⟨24,[.seq .u64 ls],false⟩)]):=by kernel_rfl
def Z7:Int:=ls.getD (0+i.toNat*1) 0
def Z8:Int:=Ba (DR q (Ai ms 0 n i)) c 0
theorem AIs:AR Tryz.prog JL (some 0) 200 2 kB (Oi ls ms n m N M q b i c [true]) =
 some ([(AH .i64 N,true),(decide (i<N),true),(Nat.ble (0+n) ms.length,true),(AH .i64 n,true),(decide (0≤i),true),(true,true),(decide (0≤i∧i<N),true),(decide (0+i.toNat*1<ls.length),true),(BU b,true),(decide (0≤i∧i<N),true),(decide (0+i.toNat*1<ls.length),true)],[0],
  Oi (ls.set (0+i.toNat*1) (Cp (Z7 ls i) (Z8 ms n q i c) b)) ms n m N M q (FR (Z7 ls i) (Z8 ms n q i c) b) (wI (i+1)) (mW (GS q (Ai ms 0 n i)+Bt (DR q (Ai ms 0 n i)) c 0)) []):=by kernel_rfl
theorem AIt:AR Tryz.prog JL (some 0) 200 2 kA (Oi ls ms n m N M q b i c [false])=some ([(AH .i64 N,true),(decide (i<N),false)],[],JM ls ms n m N M []):=by kernel_rfl
end
def EV (q M i:Nat):Nat:=q*(M % 2^(64*i)) / 2^(64*i)
theorem U2 (i:Nat):0<2^(64*i):=Nat.pow_pos (by decide)
theorem rS (i:Nat):2^(64*(i+1))=2^(64*i)*18446744073709551616:=by rw [show 64*(i+1)=64*i+64 by omega,Nat.pow_add]
theorem AIu {q:Nat} (hq:q<18446744073709551616) (M i:Nat):EV q M i<18446744073709551616:=by
 unfold EV
 refine Nat.div_lt_of_lt_mul ?_
 have h1:=Nat.mod_lt M (U2 i)
 rcases Nat.eq_zero_or_pos q with rfl | h0
 ·rw [Nat.zero_mul];exact Nat.mul_pos (U2 i) (by decide)
 ·calc q*(M % 2^(64*i))<q*2^(64*i):=Nat.mul_lt_mul_of_pos_left h1 h0
   _≤2^(64*i)*18446744073709551616:=by rw [Nat.mul_comm];exact Nat.mul_le_mul_left _ (by omega)
theorem AIv (q M Q W:Nat) (hQ:0<Q):q*(M % (Q*W)) / (Q*W)=(q*(M / Q % W)+q*(M % Q) / Q) / W∧q*M / Q % W=(q*(M / Q % W)+q*(M % Q) / Q) % W:=by
 have e1:q*(M % (Q*W))=q*(M % Q)+Q*(q*(M / Q % W)):=by rw [Nat.mod_mul,Nat.mul_add,Nat.mul_left_comm]
 have e2:q*(M % (Q*W)) / Q=q*(M / Q % W)+q*(M % Q) / Q:=by rw [e1,Nat.add_mul_div_left _ _ hQ];omega
 refine ⟨by rw [← Nat.div_div_eq_div_mul,e2],?_⟩
 have e3:q*M=q*(M % (Q*W))+Q*(W*(q*(M / (Q*W)))):=by
  have h:=Nat.div_add_mod M (Q*W)
  have h2:q*M=q*(Q*W*(M / (Q*W))+M % (Q*W)):=by rw [h]
  rw [h2,Nat.mul_add,Nat.add_comm]
  congr 1
  simp only [Nat.mul_left_comm,Nat.mul_assoc]
 rw [e3,Nat.add_mul_div_left _ _ hQ,Nat.add_mul_mod_self_left,e2]
theorem AIw {q:Nat} (hq:q<18446744073709551616) (M i:Nat):Ba (DR q (AB M i)) (EV q M i) 0=AB (q*M) i∧mW (GS q (AB M i)+Bt (DR q (AB M i)) (EV q M i) 0)=EV q M (i+1):=by
 obtain ⟨h1,h2,h3⟩:=I' (a:=(q:Int)) (q:=AB M i) (c:=EV q M i) (by omega) (BF M i) (by have:=AIu hq M i;omega)
 obtain ⟨g1,g2⟩:=AIv q M (2^(64*i)) 18446744073709551616 (U2 i)
 have e:EV q M (i+1)=(q*(M / 2^(64*i) % 18446744073709551616)+EV q M i) / 18446744073709551616:=by unfold EV;rw [rS];exact g1
 have e':((q*(M / 2^(64*i) % 18446744073709551616)+EV q M i:Nat):Int)=q*AB M i+EV q M i:=by rw [Int.natCast_add,Int.natCast_mul];rfl
 have g2':AB (q*M) i=((q*(M / 2^(64*i) % 18446744073709551616)+EV q M i:Nat):Int) % 18446744073709551616:=by
  show ((q*M / 2^(64*i) % 2^64:Nat):Int)=_
  rw [show (2:Nat)^64=18446744073709551616 from rfl,g2];rfl
 have e'':((EV q M (i+1):Nat):Int)=((q*(M / 2^(64*i) % 18446744073709551616)+EV q M i:Nat):Int) / 18446744073709551616:=by rw [e];rfl
 rw [g2',e'',e',h1]
 constructor<;>omega
def wl (k x:Nat):List Int:=(List.range k).map (AB x)
theorem G3 (k x:Nat):(wl k x).length=k:=by simp [wl]
theorem AIx {k x:Nat}:∀ d∈wl k x,0≤d∧d<18446744073709551616:=fun d hd=>by
 obtain ⟨i,_,rfl⟩:=List.mem_map.1 hd
 exact BF x i
theorem Z9:∀ {l:List Int},(∀ d∈l,0≤d∧d<18446744073709551616)→((AF l:Nat):Int)=BJ l
 | [],_=>rfl
 | d::r,h=>by
  have hd:=h d (by simp)
  have ih:=Z9 (l:=r) fun d h'=>h d (by simp [h'])
  simp only [AF,BJ]
  omega
theorem Mq {k x:Nat} (h:x<2^(64*k)):AF (wl k x)=x:=by
 have:=Z9 (AIx (k:=k) (x:=x))
 rw [show wl k x=(List.range k).map (AB x) from rfl,QE k x h] at this
 exact Int.ofNat.inj this
theorem AIy {l:List Int} {n:Nat} (h:l.length=n):AA l 0 n=l:=by subst h;simp [AA]
theorem rT {k x i:Nat} (h:i<k):(wl k x).getD i 0=AB x i:=by simp [wl,List.getD_eq_getElem?_getD,h]
theorem AIz {l:List Int} (h:∀ d∈l,0≤d∧d<18446744073709551616):l=wl l.length (AF l):=(QF l _ h (Z9 h)).1
def Eh (L T N i:Nat):List Int:=(List.range N).map fun j=>if j<i then BI L T j else AB L j
theorem AI0 {L T N i:Nat} (h:i<N):(Eh L T N i).getD i 0=AB L i:=by simp [Eh,List.getD_eq_getElem?_getD,h]
theorem AI1 {L T N i:Nat} (h:i<N):(Eh L T N i).set i (BI L T i)=Eh L T N (i+1):=by
 refine List.ext_getElem? fun j=>?_
 rw [List.getElem?_set]
 by_cases hj:j<N
 ·by_cases e:i=j
  ·subst e;simp [Eh,h]
  ·simp only [Eh,List.getElem?_map,List.getElem?_range hj,Option.map_some,if_neg e]
   by_cases q:j<i
   ·rw [if_pos q,if_pos (by omega)]
   ·rw [if_neg q,if_neg (by omega)]
 ·have e:i≠j:=by omega
  rw [if_neg e]
  simp [Eh,hj]
theorem AI2 (L T N:Nat):Eh L T N 0=wl N L:=by simp [Eh,wl]
theorem AI3 {L T N:Nat} (hT:T≤L) (hL:L<2^(64*N)):Eh L T N N=wl N (L-T):=by
 have e:Eh L T N N=(List.range N).map (BI L T):=List.map_congr_left fun j hj=>if_pos (List.mem_range.1 hj)
 have h:=oB (k:=N) hL (Nat.lt_of_le_of_lt hT hL)
 have e2:(L+(2^(64*N)-T)) % 2^(64*N)=L-T:=by
  rw [show L+(2^(64*N)-T)=(L-T)+2^(64*N) by omega,Nat.add_mod_right,Nat.mod_eq_of_lt (by omega)]
 rw [e2] at h
 have:=(QF ((List.range N).map (BI L T)) (L-T) (fun d hd=>by obtain ⟨i,_,rfl⟩:=List.mem_map.1 hd;exact C8 L T i) h).1
 rw [e,this]
 simp [wl]
theorem AI4 {L M Q t q:Nat} (hM:M<(t+1)*Q) (hq:q≤L / Q / (t+1)):q*M≤L:=by
 calc q*M≤q*((t+1)*Q):=Nat.mul_le_mul_left _ (by omega)
  _=q*(t+1)*Q:=by rw [Nat.mul_assoc]
  _≤L / Q*Q:=Nat.mul_le_mul_right _ (Nat.le_trans (Nat.mul_le_mul_right _ hq) (Nat.div_mul_le_self _ _))
  _≤L:=Nat.div_mul_le_self _ _
def RF (N x:Nat):Heap:=[(0,some ⟨24,[.seq .u64 (wl N x)],false⟩)]
section
variable {ms:List Int} {n m M:Nat} (hm:∀ d∈ms,0≤d∧d<18446744073709551616) (hl:n≤ms.length) (hn:n≤1125899906842624) {V:Nat} (hV:AF (AA ms 0 n)=V) (h0:0<V) {β0:Env} {w0:World} (hb:∀ b,2≤b→β0 b=none)
include hm hl hn hV h0 hb
omit h0 in
theorem AI5 {L q:Nat} (hq:q<18446744073709551616) {R:Ending→World→Prop} (hk:ASafe Tryz.prog 212 β0 w0 R Tryz.f212.ntmps [0] (JM (Eh L (q*V) (n+1) (n+1)) ms n m (n+1) M [])) :
  ∀ r i,i+r=n+1→ASafe Tryz.prog 212 β0 w0 R Tryz.f212.ntmps [0] (Oi (Eh L (q*V) (n+1) i) ms n m (n+1) M q (A5 L (q*V) i) i (EV q V i) []):=by
 intro r
 induction r with
 | zero =>
  intro i hi
  obtain rfl:i=n+1:=by omega
  exact AZ [false] (Ab (AK H_ AY) AE (AIt ..) ⟨by simp only [AH,Bool.and_eq_true,decide_eq_true_eq];omega,by simp,trivial⟩ (AL (by kernel_rfl)) hb (fun _ h=>by cases h) fun _=>hk)
 | succ r ih =>
  intro i hi
  obtain ⟨w1,w2⟩:=AIw hq V i
  have ha:Ai ms 0 n i=AB V i:=by rw [← hV];exact MS (off:=0) (n:=n) hm i
  have ei:0+(i:Int).toNat*1=i:=by omega
  have hlen:(Eh L (q*V) (n+1) i).length=n+1:=by simp [Eh]
  refine AZ [true] (Ab (AK H_ AY) AE (AIs ..) ?_ (AL (by kernel_rfl)) hb (fun k h=>by simpa using h) fun _=>?_)
  ·rw [ei,hlen]
   refine ⟨by simp only [AH,Bool.and_eq_true,decide_eq_true_eq];omega,by simp<;>omega,Nat.ble_eq_true_of_le (by omega),by simp only [AH,Bool.and_eq_true,decide_eq_true_eq];omega,by simp,rfl,by simp<;>omega,by simp<;>omega,CQ (De L _ i),by simp<;>omega,by simp<;>omega,trivial⟩
  ·unfold Z7 Z8
   rw [ei,ha,w1,w2,AI0 (by omega),Al (z:=(i:Int)+1) (by omega)]
   show ASafe _ _ _ _ _ _ _ (Oi ((Eh L (q*V) (n+1) i).set i (BI L (q*V) i)) _ _ _ _ _ _ (A5 L (q*V) (i+1)) _ _ _)
   rw [AI1 (by omega)]
   exact ih (i+1) (by omega)
theorem AI6:∀ L,L<2^(64*(n+1))→ASafe Tryz.prog 212 β0 w0 (Ax β0 w0 [0] (.tup []) (RF (n+1) (L % V))) Tryz.f212.ntmps [0] (JM (wl (n+1) L) ms n m (n+1) M []):=by
 intro L
 induction L using Nat.strongRecOn with
 | _ L ih =>
 intro hL
 have hlen:=G3 (n+1) L
 have hwin:AF (AA (wl (n+1) L) 0 (n+1))=L:=by rw [AIy hlen,Mq hL]
 have hbN:AH .i64 ((n+1:Nat):Int)=true:=by simp only [AH,Bool.and_eq_true,decide_eq_true_eq];omega
 have hbn:AH .i64 (n:Int)=true:=by simp only [AH,Bool.and_eq_true,decide_eq_true_eq];omega
 have hC:∀ d r,decide (V≤L)=d→AQ r→AQ (RE (wl (n+1) L) ms n (n+1) d r):=by
  intro d r hd hr
  refine ⟨Nat.ble_eq_true_of_le (by omega),Nat.ble_eq_true_of_le (by omega),hbN,hbn,?_,hr⟩
  rw [hwin,hV,← hd]
  unfold Cb
  by_cases h:V≤L
  ·rw [if_neg (by omega)];split<;>simp [h]
  ·rw [if_pos (by omega)];simp [h]
 by_cases hle:V≤L
 ·have n1:1≤n:=by
   rcases Nat.eq_zero_or_pos n with e | e
   ·subst e;rw [show AA ms 0 0=[] by simp [AA]] at hV;simp [AF] at hV;omega
   ·exact e
  have hnI:nI n=((n-1:Nat):Int):=by unfold nI;rw [Al (by omega)];omega
  have htm:JN ms n=AB V (n-1):=by
   have:=MS (off:=0) (n:=n) hm (n-1)
   rw [hV] at this
   unfold JN
   rw [hnI,Int.toNat_natCast,Nat.mul_one,← GX (n:=n) (by omega)]
   unfold Ai AA at this
   rw [Int.toNat_natCast] at this
   exact this
  have htl:LC (wl (n+1) L) n=AB L n:=by unfold LC;rw [Int.toNat_natCast,Nat.mul_one,Nat.zero_add,rT (by omega)]
  have htl2:(wl (n+1) L).getD (0+(nI n).toNat*1) 0=AB L (n-1):=by rw [hnI,Int.toNat_natCast,Nat.mul_one,Nat.zero_add,rT (by omega)]
  have bt:=BF V (n-1)
  have bl:=BF L n
  have hVlt:V<2^(64*n):=by
   have:=GW (AA ms 0 n) (CS hm)
   rw [hV] at this
   unfold AA at this
   rwa [List.length_take,List.length_drop,Nat.min_eq_left (by omega)] at this
  obtain ⟨k,rfl⟩:∃ k,n=k+1:=⟨n-1,by omega⟩
  rw [Nat.add_sub_cancel] at *
  have tV:AB V k=((V / 2^(64*k):Nat):Int):=by
   show ((V / 2^(64*k) % 2^64:Nat):Int)=_
   rw [Nat.mod_eq_of_lt]
   refine Nat.div_lt_of_lt_mul ?_
   rw [← Nat.pow_add];rwa [show 64*k+64=64*(k+1) by omega]
  have tL:AB L (k+1)=((L / 2^(64*(k+1)):Nat):Int):=by
   show ((L / 2^(64*(k+1)) % 2^64:Nat):Int)=_
   rw [Nat.mod_eq_of_lt]
   refine Nat.div_lt_of_lt_mul ?_
   rw [← Nat.pow_add];rwa [show 64*(k+1)+64=64*(k+1+1) by omega]
  have tL2:((L / 2^(64*k):Nat):Int)=AB L (k+1)*18446744073709551616+AB L k:=by
   rw [tL]
   show _=_+((L / 2^(64*k) % 2^64:Nat):Int)
   rw [rS,← Nat.div_div_eq_div_mul]
   omega
  have hMb:V<(V / 2^(64*k)+1)*2^(64*k):=by rw [Nat.mul_comm];exact Nat.lt_mul_div_succ V (U2 k)
  have hD:∀ d r,decide (AB V k+1=18446744073709551616)=d→AQ r→AQ (U1 (wl (k+1+1) L) ms (k+1) (k+1+1) d r):=by
   intro d r hd hr
   refine ⟨by rw [hnI];simp<;>omega,by rw [hnI];simp<;>omega,?_,by simp<;>omega,by rw [hlen];simp<;>omega,hr⟩
   rw [htm,← hd,Dq]
   by_cases h:AB V k+1=18446744073709551616
   ·simp [h]
   ·rw [decide_eq_false h,decide_eq_false (by omega)]
  have fin:∀ (q:Nat),1≤q→q<18446744073709551616→q*V≤L→ASafe Tryz.prog 212 β0 w0 (Ax β0 w0 [0] (.tup []) (RF (k+1+1) (L % V))) Tryz.f212.ntmps [0] (Oi (wl (k+1+1) L) ms (k+1) m (k+1+1) M q 0 0 0 []):=by
   intro q q1 q2 q3
   have hpos:0<q*V:=Nat.mul_pos q1 h0
   have hh:=ih (L-q*V) (by omega) (by omega)
   have e:(L-q*V) % V=L % V:=by
    have:=Nat.sub_mul_mod (x:=L) (n:=V) (k:=q) (by rw [Nat.mul_comm];exact q3)
    rwa [Nat.mul_comm] at this
   rw [e,← AI3 q3 hL] at hh
   have:=AI5 hm hl hn hV hb (m:=m) (M:=M) q2 hh (k+1+1) 0 (by omega)
   rw [AI2] at this
   have c0:((EV q V 0:Nat):Int)=0:=by unfold EV;simp [Nat.mod_one]
   rw [c0] at this
   exact this
  have go:∀ (qc:Ch) (q:Nat),nv qc=.v (.int .u64 q)→1≤q→q<18446744073709551616→q*V≤L→ASafe Tryz.prog 212 β0 w0 (Ax β0 w0 [0] (.tup []) (RF (k+1+1) (L % V))) Tryz.f212.ntmps [0] (Uz (wl (k+1+1) L) ms (k+1) m (k+1+1) M qc):=by
   intro qc q hqc q1 q2 q3
   refine Ds ?_
   have:=fin q q1 q2 q3
   have e:(RD (k+1) m (k+1+1) M qc (.n .u64 0) (.n .i64 0) (.n .u64 0)).map Dr=RD (k+1) m (k+1+1) M (.v (.int .u64 q)) (.v (.int .u64 0)) (.v (.int .i64 0)) (.v (.int .u64 0)):=by
    unfold RD
    simp only [List.map_cons,List.map_replicate,Dr,List.map_nil,hqc]
    rfl
   rw [e];exact this
  have one:∀ q:Nat,q<18446744073709551616→q*V≤L→1≤max 1 q∧max 1 q<18446744073709551616∧max 1 q*V≤L∧U0 (q:Int)=((max 1 q:Nat):Int):=by
   intro q h1 h2
   refine ⟨by omega,by omega,?_,by unfold U0;split<;>omega⟩
   rcases Nat.eq_zero_or_pos q with rfl | hq
   ·simpa using hle
   ·rw [Nat.max_eq_right hq];exact h2
  by_cases ht:AB V k+1=18446744073709551616
  ·have hq:L / 2^(64*(k+1))*V≤L:=Nat.le_trans (Nat.mul_le_mul_left _ (by omega)) (Nat.div_mul_le_self L (2^(64*(k+1))))
   obtain ⟨a1,a2,a3,a4⟩:=one (L / 2^(64*(k+1))) (by omega) hq
   refine AZ [true,true] (Ab (AK H_ AY) AE (AIo ..) (hC true _ (decide_eq_true hle) (hD true _ (decide_eq_true ht) trivial)) (AL (by kernel_rfl)) hb (fun _ h=>by cases h) fun _=>?_)
   rw [htl,tL,a4]
   exact go _ _ rfl a1 a2 a3
  ·have hmw:mW (JN ms (k+1)+1)=((V / 2^(64*k)+1:Nat):Int):=by rw [htm,Dq,tV];omega
   by_cases hlt:AB L (k+1)<AB V k+1
   ·have hq:Z6 (wl (k+1+1) L) ms (k+1)=((L / 2^(64*k) / (V / 2^(64*k)+1):Nat):Int):=by
     unfold Z6
     rw [hmw,htl,htl2,Int.toNat_natCast]
     have:(AB L (k+1)).toNat*Bv+(AB L k).toNat=L / 2^(64*k):=by
      have:=BF L k
      unfold Bv
      omega
     rw [this]
    have hb1:L / 2^(64*k) / (V / 2^(64*k)+1)<18446744073709551616:=by
     refine Nat.div_lt_of_lt_mul ?_
     have:=BF L k
     omega
    obtain ⟨a1,a2,a3,a4⟩:=one _ hb1 (AI4 hMb (Nat.le_refl _))
    refine AZ [true,false,true] (Ab (AK H_ AY) AE (AIp ..) (hC true _ (decide_eq_true hle) (hD false _ (decide_eq_false ht) ?_)) (AL (by kernel_rfl)) hb (fun _ h=>by cases h) fun _=>?_)
    ·have h4:LC (wl (k+1+1) L) (k+1)<mW (JN ms (k+1)+1):=by rw [htl,hmw];omega
     refine ⟨decide_eq_true h4,by simp<;>omega,by rw [hlen];simp<;>omega,by rw [hnI];simp<;>omega,by rw [hnI,hlen];simp<;>omega,decide_eq_true h4,trivial⟩
    ·rw [hq,a4]
     exact go _ _ rfl a1 a2 a3
   ·refine AZ [true,false,false] (Ab (AK H_ AY) AE (AIq ..) (hC true _ (decide_eq_true hle) (hD false _ (decide_eq_false ht) ⟨decide_eq_false (by rw [htl,hmw];omega),trivial⟩)) (AL (by kernel_rfl)) hb (fun _ h=>by cases h) fun _=>?_)
    exact go _ 1 rfl (by omega) (by omega) (by omega)
 ·rw [Nat.mod_eq_of_lt (by omega)]
  exact AZ [false] (Aq (AK H_ AY) AE Tryz.func212 (AIr ..) (hC false _ (decide_eq_false hle) trivial) (AL (by kernel_rfl)) hb (fun _ h=>by cases h))
end
theorem AI7 {ms:List Int} {n m M:Nat} (hm:∀ d∈ms,0≤d∧d<18446744073709551616) (hl:n≤ms.length) (hn:n≤1125899906842624) (h0:0<AF (AA ms 0 n)) {ls:List Int} (hls:∀ d∈ls,0≤d∧d<18446744073709551616) (hlen:ls.length=n+1) :
  Ah Tryz.prog 212 (Uy n m (n+1) M) (Mp ls ms) 2 [0] (.tup []) (RF (n+1) (AF ls % AF (AA ms 0 n))):=by
 refine Av (path:=[]) Tryz.func212 (by kernel_rfl) (by kernel_rfl) fun β0 w0 hb=>?_
 refine Ab (AK H_ AY) AE (AIn ..) trivial (AL (by kernel_rfl)) hb (fun _ h=>by cases h) fun _=>?_
 have e:=AIz hls
 rw [hlen] at e
 have hlt:=GW ls hls
 rw [hlen] at hlt
 have:=AI6 hm hl hn rfl h0 (m:=m) (M:=M) (w0:=w0) hb (AF ls) hlt
 rw [← e] at this
 exact this
def takeSpec:ASpec:=fun args H fr path =>
 match args with
 | [.val false [.sl k off N _],.val false [.sl t off' n _],I]=>match BH (some I),AG H k,AG H t with
  | some (_,.i64,i),some ⟨ty,cs,false⟩,some ⟨_,ds,_⟩=>match As .u64 cs,As .u64 ds,Nat.beq k t,Nat.beq off 0&&(Nat.beq off' 0&&Nat.beq ty 24) with
   | some ls,some ms,false,true=>some (A8 [k,t] 2 fr 0 [0] (.tup []) (RF N (AF ls % AF (AA ms 0 n))) [(Nat.beq N (n+1),true),(Nat.beq N ls.length,true),(Nat.ble n ms.length,true),(Nat.ble n 1125899906842624,true),(decide (i=n),true),(Nat.blt 0 (AF (AA ms 0 n)),true)] path)
   | _,_,_,_=>none
  | _,_,_=>none
 | _=>none
theorem AI8:A7 Tryz.prog 212 takeSpec:=by
 refine CG Tryz.func212 (by kernel_rfl) (by kernel_rfl) fun args H fr path r h=>?_
 unfold takeSpec at h
 split at h
 case h_2=>cases h
 rename_i k off N M t off' n m I
 split at h
 case h_2=>cases h
 rename_i c0 i ty cs ty' ds o' hI hk ht
 split at h
 case h_2=>cases h
 rename_i ls ms hls hms hkt hoff
 injection h with h
 simp only [Bool.and_eq_true] at hoff
 obtain ⟨o1,o2,o3⟩:=hoff
 obtain rfl:=Ao.1 o1
 obtain rfl:=Ao.1 o2
 obtain rfl:=Ao.1 o3
 refine ⟨[k,t],2,0,[0],_,_,_,path,h.symm,fun β us w ha hg hc=>?_⟩
 obtain ⟨u1,us1,r1,⟨u2,us2,r2,⟨u3,us3,r3,ha,rfl⟩,rfl⟩,rfl⟩:=ha
 obtain ⟨c1,c2,c3,c4,c5,c6,_⟩:=hc
 obtain rfl:=Ao.1 c1
 have hil:i=(n:Int):=by simpa using c5
 subst hil
 obtain ⟨l1,g1⟩:=GV hg hk
 obtain ⟨_,b1⟩:=CJ hls g1
 obtain ⟨l2,g2⟩:=GV hg ht
 obtain ⟨_,b2⟩:=CJ hms g2
 obtain ⟨rfl,p1⟩:=B6 (β:=β) (u:=u3) (fun A hA=>by injection hA with hA;subst hA;exact r3) hI
 have hne:k≠t:=F2 hkt
 refine ⟨Uy n m (n+1) M,Mp ls ms,AI7 (fun d hd=>Cx (b2 d hd)) (Nat.le_of_ble_eq_true c3) (Nat.le_of_ble_eq_true c4) (Ay.1 c6) (fun d hd=>Cx (b1 d hd)) (Ao.1 c2).symm,by kernel_rfl,
  ⟨u1,_,Bl (by omega) rfl r1,⟨u2,_,Bl (by omega) rfl r2,⟨_,us3,Aw ⟨rfl,rfl,p1⟩,ha,rfl⟩,rfl⟩,rfl⟩,?_,fun j hj=>?_⟩
 ·refine QH (ρ:=[k,t]) (bs:=[⟨24,[.seq .u64 ls],false⟩,Ad [.seq .u64 ms]]) hg (fun j d hj=>?_) fun i j d hi hr hij hj=>?_
  ·match j,hj with
   | 0,hj =>
    injection hj with hj;subst hj
    refine ⟨_,hk,.inr ⟨rfl,rfl⟩,fun l hl=>?_⟩
    obtain ⟨q1,q2⟩:=CJ hls hl
    exact ⟨_,[],⟨q1,q2⟩,rfl,by simp⟩
   | 1,hj =>
    injection hj with hj;subst hj
    refine ⟨_,ht,.inl rfl,fun l hl=>?_⟩
    obtain ⟨q1,q2⟩:=CJ hms hl
    exact ⟨_,[],⟨q1,q2⟩,rfl,by simp⟩
  ·match i,j,hi,hj,hij with
   | 0,1,_,_,_=>exact hne
   | 1,_,hi,_,_=>injection hi with hi;subst hi;exact absurd rfl hr
   | 0,0,_,_,q=>exact absurd rfl q
 ·match j,hj with
  | 0,_=>exact Bu (hg.heap _ _ hk)
  | 1,_=>exact Bu (hg.heap _ _ ht)
noncomputable def SIa:List (FuncId×ASpec):=(212,takeSpec)::S22
theorem AI9:AU Tryz.prog SIa:=⟨AI8,H_⟩
noncomputable abbrev oMd:Orc:=AI SIa K0
theorem U3:OrcOk Tryz.prog oMd:=AK AI9 AY
def U4 (off n m N M:Nat):List AV:=[.val false [.sl 0 off N M],.val false [.sl 1 0 n m]]
noncomputable def AI_:List Item:=Bh (AR Tryz.prog oMd (some 0) 100 2 none (Af Tryz.f130 (U4 0 0 0 0 0) (CF [] []) 2 []))
noncomputable def mdT (off n m N M:Nat) (k:Int):List AV:=.val false [.sl 0 off N M]::.val false [.sl 1 0 n m]::.any::.any::.val false [.v (.slice none 0 0)]::.val false [.n .i64 0]::.val false [.v (.int .i64 k)]::List.replicate (Tryz.f130.ntmps-7) .any
noncomputable def Z_ (off:Nat) (xs ms:List Int) (n m N M:Nat) (k:Int) (p:List Bool):ASt:=⟨AI_,⟨mdT off n m N M k,CF xs ms,2,p⟩⟩
noncomputable def AJA:List Item:=Bh (AR Tryz.prog oMd (some 0) 100 2 none (Z_ 0 [] [] 0 0 0 0 0 [true,false,false]))
noncomputable def AJB (off n m N M L:Nat) (k i:Int):List AV:=.val false [.sl 0 off N M]::.val false [.sl 1 0 n m]::.any::.any::.val false [.v (.slice none 0 0)]::.val false [.n .i64 0]::.val false [.v (.int .i64 k)]::.val false [.sl 2 0 L L]::.val false [.v (.int .i64 i)]::List.replicate (Tryz.f130.ntmps-9) .any
noncomputable def RG (off:Nat) (xs ms ls:List Int) (n m N M L:Nat) (k i:Int) (p:List Bool):ASt:=⟨AJA,⟨AJB off n m N M L k i,[(0,some (Ad [.seq .u64 xs])),(1,some (Ad [.seq .u64 ms])),(2,some ⟨24,[.seq .u64 ls],false⟩)],3,p⟩⟩
def U5 (L:Nat) (ls:List Int) (x:Int):List Int:=(List.take (0+Int.toNat 1*1) ls++(List.take (Nat.min L (L-Int.toNat 1)) (List.drop 0 ls)++List.drop (0+Int.toNat 1*1+Nat.min L (L-Int.toNat 1)*1) ls)).set (0+Int.toNat 0*1) x
def Z' (L:Nat) (ls:List Int):List Int:=List.take (0+Int.toNat 1*1) ls++(List.take (Nat.min L (L-Int.toNat 1)) (List.drop 0 ls)++List.drop (0+Int.toNat 1*1+Nat.min L (L-Int.toNat 1)*1) ls)
def JO (n:Nat):Int:=wI ((n:Int)+1)
section
variable (off:Nat) (xs ms ls:List Int) (n m N M L:Nat) (k i:Int)
theorem AJC:AR Tryz.prog oMd (some 0) 100 2 (some ([0,1,4,5,6],[0,1],2)) (Af Tryz.f130 (U4 off n m N M) (CF xs ms) 2 [])=some ([(AH .i64 n,true)],[],Z_ off xs ms n m N M n []):=by kernel_rfl
theorem AJD:AR Tryz.prog oMd (some 0) 100 2 (some ([0,1,4,5,6,7,8],[0,1,2],3)) (Z_ off xs ms n m N M k [true,false,false]) =
 some ([(decide (0<k),true),(decide (0≤wI (k-1)∧wI (k-1)<n),true),(decide (0+(wI (k-1)).toNat*1<ms.length),true),(decide (ms.getD (0+(wI (k-1)).toNat*1) 0=0),false),(decide (k=0),false),(AH .i64 n,true),
  (decide (0≤JO n∧JO n≤JO n∧((8:Nat):Int)*JO n≤281474976710656∧JO n≤9223372036854775807),true),(AH .i64 N,true)],[],
  RG off xs ms (List.replicate (JO n).toNat 0) n m N M (JO n).toNat k (wI ((N:Int)-1)) []):=by kernel_rfl
theorem AJE:AR Tryz.prog oMd (some 0) 100 2 (some ([0,1,4,5,6,7,8],[0,1,2],3)) (RG off xs ms ls n m N M L k i [true,false]) =
 some ([(decide (0≤i),true),(decide ((0:Int)≤1∧1≤(L:Int)),true),(Nat.beq L (Int.toNat 1),false),(Nat.ble (0+Nat.min L (L-Int.toNat 1)) ls.length,true),(Nat.ble (0+Int.toNat 1*1+Nat.min L (L-Int.toNat 1)*1) ls.length,true),
  (decide (0≤i∧i<N),true),(decide (off+i.toNat*1<xs.length),true),(decide ((0:Int)≤0∧0<(L:Int)),true),(decide (0+Int.toNat 0*1<(Z' L ls).length),true),(decide (0≤k∧k≤m),true),(true,true),
  (Nat.beq L (k.toNat-0+1),true),(Nat.beq L (U5 L ls (xs.getD (off+i.toNat*1) 0)).length,true),(Nat.ble (k.toNat-0) ms.length,true),(Nat.ble (k.toNat-0) 1125899906842624,true),(decide (k=((k.toNat-0:Nat):Int)),true),(Nat.blt 0 (AF (AA ms 0 (k.toNat-0))),true)],[],
  RG off xs ms (wl L (AF (U5 L ls (xs.getD (off+i.toNat*1) 0)) % AF (AA ms 0 (k.toNat-0)))) n m N M L k (wI (i-1)) []):=by kernel_rfl
def aA (n L:Nat):AV:=.tup [(false,[.sl 2 0 ((n:Int).toNat-0) (L-0)]),(false,[.n .i64 0])]
def aB (L x:Nat):Heap:=[(2,some ⟨24,[.seq .u64 (wl L x)],false⟩)]
theorem AJF:AP Tryz.prog oMd Tryz.f130 100 2 [2] (RG off xs ms ls n m N M L k i [false]) =
 some ([(decide (0≤i),false),(AH .i64 n,true),(decide (0≤(n:Int)∧(n:Int)≤L),true),(true,true)],[],aA n L,[(2,some ⟨24,[.seq .u64 ls],false⟩)]):=by kernel_rfl
end
theorem rU {n:Nat} {ls:List Int} (h:ls.length=n+1) (x:Int):U5 (n+1) ls x=x::ls.take n:=by
 obtain ⟨a,r,rfl⟩:∃ a r,ls=a::r:=by cases ls with | nil=>simp at h | cons a r=>exact ⟨a,r,rfl⟩
 have e1:Int.toNat 1=1:=rfl
 have e0:Int.toNat 0=0:=rfl
 have e2:Nat.min (n+1) (n+1-1)=n:=Nat.min_eq_right (by omega)
 unfold U5
 rw [e1,e0,e2]
 have e3:List.drop (0+1*1+n*1) (a::r)=[]:=List.drop_eq_nil_of_le (by simp at h ⊢;omega)
 rw [e3]
 simp
theorem rV (n X:Nat):(wl (n+1) X).take n=wl n X:=by
 unfold wl
 rw [← List.map_take,List.range_succ,List.take_left' (by simp)]
theorem AJG {n:Nat} {ls:List Int} (h:ls.length=n+1):0<(Z' (n+1) ls).length:=by
 unfold Z'
 rw [List.length_append,List.length_take,h]
 have e1:Int.toNat 1=1:=rfl
 rw [e1];omega
theorem AJH (n:Nat):wl n 0=List.replicate n 0:=by
 unfold wl
 refine List.ext_getElem? fun i=>?_
 by_cases h:i<n
 ·simp [h,AB]
 ·simp [h]
theorem AJI {xs ms:List Int} {off n m N M:Nat} (hx:∀ d∈xs,0≤d∧d<18446744073709551616) (hm:∀ d∈ms,0≤d∧d<18446744073709551616) (hl:off+N≤xs.length) (hN:AH .i64 N=true) (hl':n+1≤ms.length) (hn:n+1≤1099511627776) (hnm:n+1≤m) (ht:ms.getD n 0≠0) :
  Ah Tryz.prog 130 (U4 off (n+1) m N M) (CF xs ms) 2 [] (.tup [(false,[.sl 2 0 (n+1) (n+1+1)]),(false,[.n .i64 0])]) (aB (n+1+1) (AF (AA xs off N) % AF (AA ms 0 (n+1)))):=by
 have bN:N≤9223372036854775807:=by simp only [AH,Bool.and_eq_true,decide_eq_true_eq] at hN;omega
 have hbn:AH .i64 ((n+1:Nat):Int)=true:=by simp only [AH,Bool.and_eq_true,decide_eq_true_eq];omega
 have hV0:0<AF (AA ms 0 (n+1)):=by
  have:=QS (AA ms 0 (n+1)) n (CS hm)
  rw [show (AA ms 0 (n+1)).getD n 0=ms.getD n 0 from by unfold AA;rw [GX (by omega),Nat.zero_add]] at this
  have hb:=I3 hm n
  rcases Nat.eq_zero_or_pos (AF (AA ms 0 (n+1))) with e | e
  ·rw [e,Nat.zero_div,Nat.zero_mod] at this
   omega
  ·exact e
 have hVlt:AF (AA ms 0 (n+1))<2^(64*(n+1)):=by
  have:=GW (AA ms 0 (n+1)) (CS hm)
  unfold AA at this ⊢
  rwa [List.length_take,List.length_drop,Nat.min_eq_left (by omega)] at this
 refine Av (path:=[]) Tryz.func130 (by kernel_rfl) (by kernel_rfl) fun β0 w0 hb=>?_
 refine Ab U3 AE (AJC ..) ⟨hbn,trivial⟩ (AL (by kernel_rfl)) hb (fun _ h=>by cases h) fun _=>?_
 have e1:wI (((n+1:Nat):Int)-1)=(n:Int):=by rw [Al (by omega)];omega
 have e2:JO (n+1)=((n+1+1:Nat):Int):=by unfold JO;rw [Al (by omega)];omega
 refine AZ [true,false,false] (Ab U3 AE (AJD ..) ?_ (AL (by kernel_rfl)) hb (fun _ h=>by cases h) fun _=>?_)
 ·rw [e1,e2]
  refine ⟨by simp<;>omega,by simp<;>omega,by simp<;>omega,?_,by simp<;>omega,hbn,by simp only [decide_eq_true_eq];omega,hN,trivial⟩
  rw [Int.toNat_natCast,Nat.mul_one,Nat.zero_add]
  exact decide_eq_false ht
 rw [e2,Int.toNat_natCast,← AJH]
 generalize hA:AF (AA xs off N)=A
 have hNw:(AA xs off N).length=N:=by unfold AA;rw [List.length_take,List.length_drop];omega
 have hA2:A<2^(64*N):=by rw [← hA];have:=GW (AA xs off N) (CS hx);rwa [hNw] at this
 generalize hV:AF (AA ms 0 (n+1))=V at *
 have loop:∀ c,c≤N→ASafe Tryz.prog 130 β0 w0 (Ax β0 w0 [] (.tup [(false,[.sl 2 0 (n+1) (n+1+1)]),(false,[.n .i64 0])]) (aB (n+1+1) (A % V))) Tryz.f130.ntmps [] (RG off xs ms (wl (n+1+1) (A / 2^(64*c) % V)) (n+1) m N M (n+1+1) ((n+1:Nat):Int) ((c:Int)-1) []):=by
  intro c
  induction c with
  | zero =>
   intro _
   rw [Nat.mul_zero,Nat.pow_zero,Nat.div_one]
   have h:=Aq (w0:=w0) (W:=[]) (n:=Tryz.f130.ntmps) U3 AE Tryz.func130 (AJF off xs ms (wl (n+1+1) (A % V)) (n+1) m N M (n+1+1) ((n+1:Nat):Int) (((0:Nat):Int)-1)) ⟨rfl,hbn,by simp<;>omega,rfl,trivial⟩ (AL (by kernel_rfl)) hb (fun _ h=>by cases h)
   have e:aA (n+1) (n+1+1)=.tup [(false,[.sl 2 0 (n+1) (n+1+1)]),(false,[.n .i64 0])]:=by unfold aA;rw [Int.toNat_natCast];rfl
   rw [e] at h
   exact AZ [false] h
  | succ c ih =>
   intro hc
   have hi:((c+1:Nat):Int)-1=(c:Int):=by omega
   rw [hi]
   have hlen:=G3 (n+1+1) (A / 2^(64*(c+1)) % V)
   have hk:((n+1:Nat):Int).toNat-0=n+1:=by omega
   have t1:Int.toNat 1=1:=rfl
   refine AZ [true,false] (Ab U3 AE (AJE ..) ?_ (AL (by kernel_rfl)) hb (fun k h=>by cases h) fun _=>?_)
   ·rw [hk,hV,rU hlen,hlen,t1]
    have e5:Nat.min (n+1+1) (n+1+1-1)=n+1:=Nat.min_eq_right (by omega)
    rw [e5]
    refine ⟨by simp,by simp<;>omega,Ez (by omega),Nat.ble_eq_true_of_le (by omega),Nat.ble_eq_true_of_le (by omega),by simp<;>omega,by simp<;>omega,by simp<;>omega,decide_eq_true (AJG hlen),by simp<;>omega,rfl,Ao.2 rfl,Ao.2 ?_,Nat.ble_eq_true_of_le (by omega),Nat.ble_eq_true_of_le (by omega),by simp,Ay.2 hV0,trivial⟩
    rw [List.length_cons,List.length_take,hlen];omega
   ·rw [hk,hV,rU hlen,rV,Al (z:=(c:Int)-1) (by omega)]
    have hs:=QU (CS (off:=off) (n:=N) hx) c
    rw [hA,show (AA xs off N).getD c 0=xs.getD (off+(c:Int).toNat*1) 0 from by unfold AA;rw [GX (by omega),Int.toNat_natCast,Nat.mul_one]] at hs
    have e6:AF (xs.getD (off+(c:Int).toNat*1) 0::wl (n+1) (A / 2^(64*(c+1)) % V)) % V=A / 2^(64*c) % V:=by
     simp only [AF]
     rw [Mq (Nat.lt_trans (Nat.mod_lt _ hV0) hVlt),hs]
     conv=>lhs;rw [Nat.add_mod,Nat.mul_mod,Nat.mod_mod,← Nat.mul_mod,← Nat.add_mod]
    rw [e6]
    exact ih (by omega)
 have:=loop N (Nat.le_refl _)
 rw [Nat.div_eq_of_lt hA2,Nat.zero_mod] at this
 rw [Al (z:=(N:Int)-1) (by omega)]
 exact this
def modSpec:ASpec:=fun args H fr path =>
 match args with
 | [S,.val false [.sl t off' n m]]=>match Bw S with
  | some (k,off,N)=>match AG H k,AG H t with
   | some ⟨_,cs,_⟩,some ⟨_,ds,_⟩=>match As .u64 cs,As .u64 ds,Nat.beq off' 0 with
    | some xs,some ms,true=>some (A8 [k,t] 2 fr 1 [] (.tup [(false,[.sl 2 0 n (n+1)]),(false,[.n .i64 0])]) (aB (n+1) (AF (AA xs off N) % AF (AA ms 0 n)))
      [(Nat.ble (off+N) xs.length,true),(AH .i64 N,true),(Nat.ble n ms.length,true),(Nat.ble n 1099511627776,true),(Nat.ble n m,true),(Nat.blt 0 n,true),(decide (ms.getD (n-1) 0=0),false)] path)
    | _,_,_=>none
   | _,_=>none
  | none=>none
 | _=>none
theorem AJJ:A7 Tryz.prog 130 modSpec:=by
 refine CG Tryz.func130 (by kernel_rfl) (by kernel_rfl) fun args H fr path r h=>?_
 unfold modSpec at h
 split at h
 case h_2=>cases h
 rename_i S t off' n m
 split at h
 case h_2=>cases h
 rename_i k off N hS
 split at h
 case h_2=>cases h
 rename_i ty cs o ty' ds o' hk ht
 split at h
 case h_2=>cases h
 rename_i xs ms hxs hms hoff
 obtain rfl:=Ao.1 hoff
 injection h with h
 refine ⟨[k,t],2,1,[],_,_,_,path,h.symm,fun β us w ha hg hc=>?_⟩
 obtain ⟨u1,us1,r1,⟨u2,us2,r2,ha,rfl⟩,rfl⟩:=ha
 obtain ⟨M,r1⟩:=C3 hS r1
 obtain ⟨c1,c2,c3,c4,c5,c6,c7,_⟩:=hc
 obtain ⟨j,rfl⟩:∃ j,n=j+1:=⟨n-1,by have:=Ay.1 c6;omega⟩
 obtain ⟨g1,g1',g2,g3⟩:=Tw hg hk ht hxs hms
 exact ⟨U4 off (j+1) m N M,CF xs ms,AJI g1 g1' (Nat.le_of_ble_eq_true c1) c2 (Nat.le_of_ble_eq_true c3) (Nat.le_of_ble_eq_true c4) (Nat.le_of_ble_eq_true c5) (of_decide_eq_false c7),by kernel_rfl,
  ⟨u1,_,Bl (by omega) rfl r1,⟨u2,_,Bl (by omega) rfl r2,ha,rfl⟩,rfl⟩,g2,g3⟩
noncomputable def SId:List (FuncId×ASpec):=(130,modSpec)::SR4
theorem AJK:AU Tryz.prog SId:=⟨AJJ,AIk⟩
theorem AJL {β β':Env} {k x:Nat} (h:x<2^(64*k)) {l:List Value} (hr:AM β [.seq .u64 (wl k x)] l):AM β' [.num k x] l:=by
 obtain ⟨l1,l2,⟨h1,_⟩,h2,h3⟩:=hr
 simp only [AM] at h2
 subst h1;subst h2
 rw [List.append_nil] at h3
 have:l=words k x:=by
  rw [h3]
  unfold wl words
  rw [List.map_map];rfl
 rw [this]
 exact QA h
noncomputable def SIe:List (FuncId×ASpec):=SId
theorem AJM:AU Tryz.prog SIe:=AJK
end Go.Proofs.YtjlcdlekmpjjnaaGreat
namespace Go.Proofs.YtjlcdlekmpjjnaaGreat.Rg
set_option maxRecDepth 100000
set_option maxHeartbeats 4000000
section
variable {F:Type} [CR F]
end
end Go.Proofs.YtjlcdlekmpjjnaaGreat.Rg
namespace Go.Proofs.YtjlcdlekmpjjnaaGreat
open Ex Num Rg
set_option maxRecDepth 100000
set_option maxHeartbeats 4000000
class Sh (α:Type) where
 R:Type
 n:Nat
 av:R→List Ch
 rd:List Ch→Option R
 mo:R→α
 en:α→R
 mo_en:∀ x,mo (en x)=x
 rd_ok:∀ {β β':Env} {cs:List Ch} {l:List Value} {r:R},rd cs=some r→AM β cs l→AM β' (av r) l
open Sh (R av rd mo en mo_en)
def Cm {α:Type}:List α→List α→List α
 | [],l=>l
 | x::r,l=>x::Cm r l
theorem rZ {α:Type}:∀ a b:List α,Cm a b=a++b
 | [],_=>rfl
 | x::r,b=>by simp [Cm,rZ r b]
def Mr {A B:Type} (n:Nat) (f:List Ch→Option A) (g:List Ch→Option B) (cs:List Ch):Option (A×B):=match EM cs n with
 | some (a,r)=>match f a,g r with
  | some x,some y=>some (x,y)
  | _,_=>none
 | none=>none
theorem RH {A B:Type} {n:Nat} {f:List Ch→Option A} {g:List Ch→Option B} {p:A→List Ch} {q:B→List Ch} {β β':Env} (hf:∀ {cs l r},f cs=some r→AM β cs l→AM β' (p r) l) (hg:∀ {cs l r},g cs=some r→AM β cs l→AM β' (q r) l)
  {cs:List Ch} {l:List Value} {r:A×B} (h:Mr n f g cs=some r) (hl:AM β cs l):AM β' (Cm (p r.1) (q r.2)) l:=by
 unfold Mr at h
 split at h
 case h_2=>cases h
 rename_i a t h1
 split at h
 case h_2=>cases h
 rename_i x y h2 h3
 injection h with h;subst h
 obtain ⟨q1,q2,_⟩:=GP h1 hl
 rw [rZ,← List.take_append_drop n l]
 exact Lt (hf h2 q1) (hg h3 q2)
instance shFP:Sh FP where
 R:=Nat
 n:=6
 av x:=[.num 6 x]
 rd:=Br 6
 mo:=tf
 en:=Fin.val
 mo_en:=Bx
 rd_ok:=Df
def aC (cs:List Ch):Option Bool:=match cs with
 | [.b x]=>some x
 | [.v (.bool x)]=>some x
 | _=>none
instance shB:Sh Bool where
 R:=Bool
 n:=1
 av x:=[.v (.bool x)]
 rd:=aC
 mo x:=x
 en x:=x
 mo_en _:=rfl
 rd_ok {β β' cs l r} h hl:=by
  unfold aC at h
  split at h
  ·injection h with h;subst h
   obtain ⟨l1,l2,h1,h2,h3⟩:=hl
   exact ⟨l1,l2,⟨h1,rfl,trivial⟩,h2,h3⟩
  ·injection h with h;subst h
   obtain ⟨l1,l2,h1,h2,h3⟩:=hl
   exact ⟨l1,l2,h1,h2,h3⟩
  ·cases h
section
variable {F:Type} [Sh F]
instance shQ [CR F] {β:F}:Sh (Qx β) where
 R:=R F×R F
 n:=Sh.n F+Sh.n F
 av r:=Cm (av r.1) (av r.2)
 rd:=Mr (Sh.n F) rd rd
 mo r:=⟨mo r.1,mo r.2⟩
 en x:=(en x.a,en x.b)
 mo_en _:=Qx.ext (mo_en _) (mo_en _)
 rd_ok:=RH Sh.rd_ok Sh.rd_ok
instance shJ:Sh (J F) where
 R:=R F×R F×R F
 n:=Sh.n F+(Sh.n F+Sh.n F)
 av r:=Cm (av r.1) (Cm (av r.2.1) (av r.2.2))
 rd:=Mr (Sh.n F) rd (Mr (Sh.n F) rd rd)
 mo r:=⟨mo r.1,mo r.2.1,mo r.2.2⟩
 en x:=(en x.x,en x.y,en x.z)
 mo_en x:=by cases x;simp only [mo_en]
 rd_ok:=RH (q:=fun r:R F×R F=>Cm (av r.1) (av r.2)) Sh.rd_ok (RH Sh.rd_ok Sh.rd_ok)
def r7 (x y:F) (i:Bool):Pt F:=match i with
 | true=>.inf
 | false=>.pt x y
def aD [Zero F]:Pt F→F
 | .inf=>0
 | .pt x _=>x
def LD [Zero F]:Pt F→F
 | .inf=>0
 | .pt _ y=>y
def DK:Pt F→Bool
 | .inf=>true
 | .pt _ _=>false
instance shP [Zero F]:Sh (Pt F) where
 R:=R F×R F×Bool
 n:=Sh.n F+(Sh.n F+1)
 av r:=Cm (av r.1) (Cm (av r.2.1) (av (α:=Bool) r.2.2))
 rd:=Mr (Sh.n F) rd (Mr (Sh.n F) rd aC)
 mo r:=r7 (mo r.1) (mo r.2.1) r.2.2
 en p:=(en (aD p),en (LD p),DK p)
 mo_en p:=by cases p<;>simp only [aD,LD,DK,r7,mo_en]
 rd_ok:=RH (q:=fun r:R F×Bool=>Cm (av r.1) (av (α:=Bool) r.2)) Sh.rd_ok (RH Sh.rd_ok shB.rd_ok)
end
def va (α:Type) [Sh α] (r:R α):AV:=.val true (av r)
def ve {α:Type} [Sh α] (x:α):AV:=va α (en x)
section
variable (α β γ:Type) [Sh α] [Sh β] [Sh γ]
def ad [Add α] (r s:R α):R α:=en (mo r+mo s:α)
def su [Sub α] (r s:R α):R α:=en (mo r-mo s:α)
def mu [Mul α] (r s:R α):R α:=en (mo r*mo s:α)
def ng [Neg α] (r:R α):R α:=en (- mo r:α)
def iv [FD α] (r:R α):R α:=en (FD.inv (mo r:α))
def re (r:R α):R α:=en (mo r:α)
def EF (g:R α→AV):List AV→Option AV
 | [.val true a]=>match rd a with
  | some r=>some (g r)
  | none=>none
 | _=>none
def GF (g:R α→R β→AV):List AV→Option AV
 | [.val true a,.val true b]=>match rd a,rd b with
  | some r,some s=>some (g r s)
  | _,_=>none
 | _=>none
end
section
variable {α β γ:Type} [Sh α] [Sh β] [Sh γ] {P:Program} {f:FuncId}
theorem G4 {b b':Env} {a:List Ch} {r:R α} {u:Value} (h:rd a=some r) (hr:AO b (.val true a) u):AO b' (va α r) u:=by
 obtain ⟨l,hl,rfl⟩:=hr
 exact ⟨l,Sh.rd_ok h hl,rfl⟩
theorem G5 {args:List AV} {cs:List Ch} {r:R α} (h:AX P f args (.val true cs)) (hc:rd cs=some r):AX P f args (va α r):=C_ h fun _ hu=>G4 hc hu
theorem Ei {g:R α→AV} (h:∀ r,AX P f [va α r] (g r)):∀ args v,EF α g args=some v→AX P f args v:=by
 intro args v hs us w ha
 unfold EF at hs
 split at hs
 case h_2=>cases hs
 split at hs
 case h_2=>cases hs
 rename_i r h1
 injection hs with hs;subst hs
 obtain ⟨u1,us1,r1,ha,rfl⟩:=ha
 exact h r _ w ⟨u1,_,G4 h1 r1,ha,rfl⟩
theorem HV {g:R α→R β→AV} (h:∀ r s,AX P f [va α r,va β s] (g r s)):∀ args v,GF α β g args=some v→AX P f args v:=by
 intro args v hs us w ha
 unfold GF at hs
 split at hs
 case h_2=>cases hs
 split at hs
 case h_2=>cases hs
 rename_i r s h1 h2
 injection hs with hs;subst hs
 obtain ⟨u1,us1,r1,⟨u2,us2,r2,ha,rfl⟩,rfl⟩:=ha
 exact h r s _ w ⟨u1,_,G4 h1 r1,⟨u2,_,G4 h2 r2,ha,rfl⟩,rfl⟩
end
end Go.Proofs.YtjlcdlekmpjjnaaGreat
namespace Go.Proofs.YtjlcdlekmpjjnaaGreat
open Ex Num Rg
open Sh (R av rd mo en mo_en)
set_option maxRecDepth 100000
set_option maxHeartbeats 4000000
theorem r9 (x y:Nat):Cq x y=ad FP x y:=K6 (UD x y) (Gw x y)
theorem sA (x y:Nat):C9 x y=su FP x y:=K6 (FF x y) (FE x y)
theorem sC (x y:Nat):Aa x y=mu FP x y:=K6 (I4 x y) (Bk x y)
theorem sF (x:Nat):Cr x=ng FP x:=K6 (Ys x) (ZF x)
theorem AJN (x:Nat):tf (BO x)=JG (tf x):=by
 have e:BO x=BO (x % pN):=by
  unfold BO
  rw [I2,I2]
  exact Nat.pow_mod x (pN-2) pN
 rw [e]
 unfold JG
 exact congrArg (fun y=>tf (BO y)) (show x % pN=(tf x).val from rfl)
theorem AJO (x:R FP):iv FP x=(JG (tf x)).val:=rfl
theorem sG (x:Nat):BO x=iv FP x:=(K6 (mT x) (AJN x)).trans (AJO x).symm
theorem AJP (x:Nat):To [AW x]=some (AW (x % pN)):=by kernel_rfl
theorem AJQ (r:R FP):AX Tryz.prog 131 [va FP r] (va FP (re FP r)):=j9 _ _ (AJP r)
noncomputable def SH1:List (FuncId×ASpec):=(131,Ar (EF FP fun r=>va FP (re FP r)))::(85,Ar (GF FP FP fun r s=>va FP (ad FP r s)))::(133,Ar (GF FP FP fun r s=>va FP (su FP r s)))::(87,Ar (EF FP fun r=>va FP (ng FP r)))::(86,Ar (GF FP FP fun r s=>va FP (mu FP r s)))::(134,Ar (EF FP fun r=>va FP (iv FP r)))::(242,Ar (Ec fun r=>va FP (re FP r)))::(204,Ar (GF FP FP fun r s=>va FP (ad FP r s)))::(207,Ar (GF FP FP fun r s=>va FP (su FP r s)))::(205,Ar (EF FP fun r=>va FP (ng FP r)))::(190,Ar (GF FP FP fun r s=>va FP (mu FP r s)))::(189,Ar (EF FP fun r=>va FP (iv FP r)))::SIe
theorem aE:AU Tryz.prog SH1:=⟨Au Tryz.func131 (by kernel_rfl) (by kernel_rfl) (Ei AJQ),Au Tryz.func85 (by kernel_rfl) (by kernel_rfl) (HV fun r s=>by rw [← r9];exact kD r s),Au Tryz.func133 (by kernel_rfl) (by kernel_rfl) (HV fun r s=>by rw [← sA];exact kI r s),Au Tryz.func87 (by kernel_rfl) (by kernel_rfl) (Ei fun r=>by rw [← sF];exact kE r),Au Tryz.func86 (by kernel_rfl) (by kernel_rfl) (HV fun r s=>by rw [← sC];exact k7 r s),Au Tryz.func134 (by kernel_rfl) (by kernel_rfl) (Ei fun r=>by rw [← sG];exact mZ r),Au Tryz.func242 (by kernel_rfl) (by kernel_rfl) (FU fun r h=>oK h),Au Tryz.func204 (by kernel_rfl) (by kernel_rfl) (HV fun r s=>by rw [← r9];exact oQ r s),Au Tryz.func207 (by kernel_rfl) (by kernel_rfl) (HV fun r s=>by rw [← sA];exact oS r s),Au Tryz.func205 (by kernel_rfl) (by kernel_rfl) (Ei fun r=>by rw [← sF];exact oR r),Au Tryz.func190 (by kernel_rfl) (by kernel_rfl) (HV fun r s=>by rw [← sC];exact oY r s),Au Tryz.func189 (by kernel_rfl) (by kernel_rfl) (Ei fun r=>by rw [← sG];exact pF r),AJM⟩
theorem sH {k m:Nat} (hk:(pN-1) / k*k=pN-1) (hlt:Nat.blt ((pN-1) / k) RR=true) (h0:0<m) (hc:Nat.beq (Kr pN m 384 ((pN-1) / k)) 1=false) (hk0:0<k) (x:Nat):x^k % pN≠m:=by
 intro h
 have hnd:¬ pN∣x:=fun hd=>by
  have:x^k % pN=0:=by
   obtain ⟨c,hcc⟩:=hd
   obtain ⟨j,rfl⟩:∃ j,k=j+1:=⟨k-1,by omega⟩
   rw [hcc,Nat.pow_succ,Nat.mul_comm,Nat.mul_assoc,Nat.mul_mod_right]
  omega
 have hf:=N3 pN_prime hnd
 rw [← hk,Nat.mul_comm,Nat.pow_mul,Nat.pow_mod,h,← Yx pN 384 m ((pN-1) / k) (by rw [lH];exact Ay.1 hlt)] at hf
 rw [hf] at hc
 cases hc
theorem AJR {a b:Nat} (h:Nat.beq (a % pN) (b % pN)=true):tf a=tf b:=N8.2 (Ao.1 h)
theorem AJS {m:Nat} (h:∀ x:Nat,x^2 % pN≠m) (hm:m<pN) (x:FP):x*x≠tf m:=fun e=>by
 refine h x.val ?_
 have:tf (x.val^2)=tf m:=by rw [Nat.pow_two,Kx,Bx];exact e
 rw [N8,Nat.mod_eq_of_lt hm] at this
 exact this
theorem AJT {m:Nat} (h:∀ x:Nat,x^3 % pN≠m) (hm:m<pN) (x:FP):x*x*x≠tf m:=fun e=>by
 refine h x.val ?_
 have:tf (x.val^3)=tf m:=by rw [Nat.pow_succ,Nat.pow_two,Kx,Kx,Bx];exact e
 rw [N8,Nat.mod_eq_of_lt hm] at this
 exact this
theorem k2:(pN-1) / 2*2=pN-1:=by kernel_rfl
theorem AJU:Nat.blt ((pN-1) / 2) RR=true:=by kernel_rfl
theorem AJV:Nat.blt (pN-1) pN=true:=by kernel_rfl
theorem AJW:Nat.blt 0 (pN-1)=true:=by kernel_rfl
theorem AJX:tf (pN-1)=-1:=by
 have h:tf (pN-1)+1=0:=by rw [← FY,← FX,UE];kernel_rfl
 exact IB (by rw [Rg.add_comm];exact h)
theorem AJY (x:FP):x*x≠-1:=by
 rw [← AJX]
 exact AJS (sH k2 AJU (Ay.1 AJW) (by kernel_rfl) (by decide)) (Ay.1 AJV) x
theorem AJZ (x:FP):x*x*x≠tf 32:=AJT (sH p3 qP (by decide) (by kernel_rfl) (by decide)) (by decide) x
abbrev FP2:Type:=Qx (-1:FP)
noncomputable instance fdFP2:FD FP2:=fdQ AJY
noncomputable def xi:FP2:=⟨1,1⟩
noncomputable def Ms:FP2:=⟨Cl,Cl⟩
theorem AJa:Cl*Cl - -1*(Cl*Cl)=tf 32:=by
 have e:Cl*Cl=tf 16:=(Kx 4 4).symm
 have e2:tf 16+tf 16=tf 32:=(FX 16 16).symm
 rw [e,← e2]
 exact ring [tf 16] (by kernel_rfl)
noncomputable def C2:Cv FP2 where
 b:=Ms
 two:=fun h=>C1.two (by
  have:=congrArg Qx.a h
  exact this)
 no2:=fun x y h hy=>by
  subst hy
  have h1:x*x*x=-Ms:=IB (by rw [Rg.add_comm,← h];exact mul_zero 0)
  refine AJZ x.nrm ?_
  rw [← Qx.nrm_mul,← Qx.nrm_mul,h1,← AJa]
  show -Cl*-Cl - -1*(-Cl*-Cl)=_
  exact ring [Cl] (by kernel_rfl)
noncomputable def Ej (x:FP):Bool:=Cz x.val
noncomputable def Dy (x:FP):FP:=tf (DD x.val)
def JP (x:FP):Bool:=Nat.beq (x.val % 2) 1
theorem U6 {x:FP} (h:Ej x=true):Dy x*Dy x=x:=by
 obtain ⟨h1,_,_⟩:=Y6 h
 unfold Dy
 rw [← Bk,h1,Kw,Bx]
theorem RJ {x y:FP} (h:y*y=x):Ej x=true:=by
 unfold Ej
 by_cases h0:x.val % pN=0
 ·exact ADg h0
 ·refine (ADf h0).2 ?_
  have hx:x.val=y.val*y.val % pN:=by rw [← h];rfl
  unfold Y5
  rw [hx,← Nat.pow_mod,← Nat.pow_two,← Nat.pow_mul,Nat.mul_comm 2,k2]
  refine N3 pN_prime fun hd=>h0 ?_
  obtain ⟨c,hc⟩:=hd
  rw [hx,hc,Nat.mod_mod,Nat.mul_assoc,Nat.mul_mod_right]
theorem U7 {x y:FP} (h:x*x=y*y):x=y∨x=-y:=by
 have e:(x-y)*(x+y)=0:=by
  have:(x-y)*(x+y)=x*x-y*y:=ring [x,y] (by kernel_rfl)
  rw [this,h,sub_self]
 rcases Uo e with e | e
 ·exact .inl (AT.1 e)
 ·exact .inr (IB (by rw [Rg.add_comm];exact e))
theorem AJb {x:FP} (h:x≠0):(-x).val=pN-x.val:=by
 have hx:x.val≠0:=fun e=>h (Uq.1 e)
 have h1:tf (pN-x.val)=-x:=by
  have:=ZF x.val
  rw [Bx] at this
  unfold Cr at this
  rw [Nat.mod_eq_of_lt x.isLt,Kw] at this
  exact this
 rw [← h1,JF (by have:=x.isLt;omega)]
theorem sI {x:FP} (h:x≠0):JP (-x)=!JP x:=by
 have hx:x.val≠0:=fun e=>h (Uq.1 e)
 unfold JP
 rw [AJb h]
 have:=x.isLt
 have ho:=Ty
 have:(pN-x.val) % 2=(1+x.val % 2) % 2:=by omega
 rw [this]
 rcases Nat.mod_two_eq_zero_or_one x.val with e | e<;>rw [e]<;>rfl
noncomputable def DW (a:FP2):Bool:=if a.a=0 then JP a.b else JP a.a
theorem sJ {x:FP}:-x=0↔x=0:=⟨fun h=>by rw [← neg_neg x,h,OG],fun h=>by rw [h,OG]⟩
theorem aF {a:FP2} (h:a≠0):DW (-a)=!DW a:=by
 unfold DW
 show (if -a.a=0 then JP (-a.b) else JP (-a.a))=_
 by_cases h1:a.a=0
 ·rw [if_pos (sJ.2 h1),if_pos h1]
  exact sI fun e=>h (Qx.ext h1 e)
 ·rw [if_neg fun e=>h1 (sJ.1 e),if_neg h1]
  exact sI h1
theorem AJc {x y:FP2} (h:x*x=y*y):x=y∨x=-y:=by
 have e:(x-y)*(x+y)=0:=by
  have:(x-y)*(x+y)=x*x-y*y:=ring [x,y] (by kernel_rfl)
  rw [this,h,sub_self]
 rcases Uo e with e | e
 ·exact .inl (AT.1 e)
 ·exact .inr (IB (by rw [Rg.add_comm];exact e))
noncomputable def FH (a:FP2):Bool:=@decide (∃ s:FP2,s*s=a) (Classical.propDecidable _)
theorem RK {a:FP2}:FH a=true↔∃ s:FP2,s*s=a:=@decide_eq_true_iff _ (Classical.propDecidable _)
theorem U8 (a:FP2):∃ x:FP2,(FH a=true→x*x=a∧DW x=false)∧(FH a=false→x=0):=by
 cases h:FH a with
 | false=>exact ⟨0,(fun e=>by cases e),fun _=>rfl⟩
 | true =>
  obtain ⟨s,hs⟩:=RK.1 h
  cases hg:DW s with
  | false=>exact ⟨s,fun _=>⟨hs,hg⟩,(fun e=>by cases e)⟩
  | true =>
   refine ⟨-s,fun _=>⟨?_,?_⟩,(fun e=>by cases e)⟩
   ·rw [← hs];exact ring [s] (by kernel_rfl)
   ·rw [aF,hg];rfl
    intro e
    rw [e] at hg
    have:DW 0=false:=if_pos rfl
    rw [this] at hg;cases hg
noncomputable def JQ (a:FP2):FP2:=Classical.choose (U8 a)
theorem AJd {a:FP2} (h:FH a=true):JQ a*JQ a=a:=((Classical.choose_spec (U8 a)).1 h).1
theorem AJe {a:FP2} (h:FH a=true):DW (JQ a)=false:=((Classical.choose_spec (U8 a)).1 h).2
theorem AJf {a:FP2} (h:FH a=false):JQ a=0:=(Classical.choose_spec (U8 a)).2 h
theorem AJg {a s:FP2} (h:s*s=a) (hg:DW s=false):JQ a=s:=by
 have hi:=RK.2 ⟨s,h⟩
 rcases AJc ((AJd hi).trans h.symm) with e | e
 ·exact e
 ·by_cases h0:s=0
  ·rw [e,h0,OG]
  ·have:=AJe hi
   rw [e,aF h0,hg] at this
   cases this
def uu:FP2:=⟨0,1⟩
theorem AJh:DW 0=false:=if_pos rfl
theorem AJi {a s:FP2} (h:s*s=a) (hg:DW s=false):s=JQ a∧FH a=true:=⟨(AJg h hg).symm,RK.2 ⟨s,h⟩⟩
noncomputable def LE (x:FP2):FP2:=if DW x=true then -x else x
theorem AJj (x:FP2):DW (LE x)=false:=by
 unfold LE
 by_cases h:DW x=true
 ·rw [if_pos h,aF (fun e=>by rw [e,AJh] at h;cases h),h];rfl
 ·rw [if_neg h];cases hq:DW x with | false=>rfl | true=>exact absurd hq h
theorem sK (x:FP2):LE x*LE x=x*x:=by
 unfold LE
 split
 ·exact ring [x] (by kernel_rfl)
 ·rfl
noncomputable def B9 (h:FP) (a:FP2) (n:FP):FP:=Dy ((a.a+n)*h)
noncomputable def IG (h:FP) (a:FP2) (n:FP):FP:=if B9 h a n=0 then Dy (-a.a) else a.b*h*FD.inv (B9 h a n)
noncomputable def GG (h:FP) (a:FP2) (n:FP):FP2:=LE ⟨B9 h a n,IG h a n⟩
noncomputable def Dz (h:FP) (a:FP2) (n:FP):Bool:=(if B9 h a n=0 then Ej (-a.a) else Ej ((a.a+n)*h))&&decide (GG h a n*GG h a n=a)
theorem AJk {h:FP} {a:FP2} {n:FP} (ht:Dz h a n=true):GG h a n=JQ a∧FH a=true:=by
 unfold Dz at ht
 exact AJi (of_decide_eq_true (Bool.and_eq_true_iff.1 ht).2) (AJj _)
theorem AJl {x:FP} (h:x*x=0):x=0:=(Uo h).elim id id
theorem sL {h:FP} (hh:h+h=1) {a s:FP2} (hs:s*s=a) {n:FP} (hn:n=s.a*s.a+s.b*s.b):Dz h a n=true:=by
 have ea:a.a=s.a*s.a-s.b*s.b:=by rw [← hs];exact ring [s.a,s.b] (a:=s.a*s.a+-1*(s.b*s.b)) (by kernel_rfl)
 have eb:a.b=s.a*s.b+s.b*s.a:=by rw [← hs];rfl
 have h1:(a.a+n)*h=s.a*s.a:=by
  rw [ea,hn]
  exact (ring [s.a,s.b,h] (a:=(s.a*s.a-s.b*s.b+(s.a*s.a+s.b*s.b))*h) (b:=s.a*s.a*(h+h)) (by kernel_rfl)).trans (by rw [hh,Rg.mul_one])
 have hi:Ej ((a.a+n)*h)=true:=RJ h1.symm
 have hx:=U6 hi
 rw [h1] at hx
 have hX:B9 h a n*B9 h a n=s.a*s.a:=by unfold B9;rw [h1];exact hx
 have fin:∀ y,(B9 h a n=s.a∧y=s.b)∨(B9 h a n=-s.a∧y=-s.b)∨(B9 h a n=s.a∧s.a=0∧y=-s.b)→(⟨B9 h a n,y⟩:FP2)*⟨B9 h a n,y⟩=a:=by
  intro y hy
  rcases hy with ⟨e1,e2⟩ | ⟨e1,e2⟩ | ⟨e1,e0,e2⟩
  ·rw [e1,e2];exact hs
  ·rw [e1,e2]
   have e:(⟨-s.a,-s.b⟩:FP2)=-s:=rfl
   rw [e,← hs];exact ring [s] (by kernel_rfl)
  ·rw [e1,e2]
   have e:(⟨s.a,-s.b⟩:FP2)=-s:=Qx.ext (by show s.a=-s.a;rw [e0,OG]) rfl
   rw [e,← hs];exact ring [s] (by kernel_rfl)
 unfold Dz
 by_cases h0:B9 h a n=0
 ·have s0:s.a=0:=by
   rw [h0,mul_zero] at hX
   exact AJl hX.symm
  have e2:s.b*s.b=-a.a:=by rw [ea,s0];exact ring [s.b] (by kernel_rfl)
  rw [if_pos h0,RJ e2]
  refine Bool.and_eq_true_iff.2 ⟨rfl,decide_eq_true ?_⟩
  unfold GG
  rw [sK]
  refine fin _ ?_
  unfold IG
  rw [if_pos h0]
  rcases U7 ((U6 (RJ e2)).trans e2.symm) with e | e
  ·exact .inl ⟨by rw [h0,s0],e⟩
  ·exact .inr (.inr ⟨by rw [h0,s0],s0,e⟩)
 ·rw [if_neg h0,hi]
  refine Bool.and_eq_true_iff.2 ⟨rfl,decide_eq_true ?_⟩
  unfold GG
  rw [sK]
  refine fin _ ?_
  have hy:IG h a n=s.a*s.b*FD.inv (B9 h a n):=by
   unfold IG
   rw [if_neg h0,eb]
   congr 1
   exact (ring [s.a,s.b,h] (a:=(s.a*s.b+s.b*s.a)*h) (b:=s.a*s.b*(h+h)) (by kernel_rfl)).trans (by rw [hh,Rg.mul_one])
  have hv:=FD.mul_inv (B9 h a n) h0
  rcases U7 hX with e | e
  ·refine .inl ⟨e,?_⟩
   rw [hy]
   calc s.a*s.b*FD.inv (B9 h a n)=s.b*(s.a*FD.inv (B9 h a n)):=ring [s.a,s.b,FD.inv (B9 h a n)] (by kernel_rfl)
    _=s.b:=by rw [← e,hv,Rg.mul_one]
  ·refine .inr (.inl ⟨e,?_⟩)
   rw [hy]
   calc s.a*s.b*FD.inv (B9 h a n)=-s.b*(-s.a*FD.inv (B9 h a n)):=ring [s.a,s.b,FD.inv (B9 h a n)] (by kernel_rfl)
    _=-s.b:=by rw [← e,hv,Rg.mul_one]
theorem sM {a s:FP2} (hs:s*s=a):(s.a*s.a+s.b*s.b)*(s.a*s.a+s.b*s.b)=a.a*a.a+a.b*a.b:=by
 rw [← hs]
 exact ring [s.a,s.b] (b:=(s.a*s.a+-1*(s.b*s.b))*(s.a*s.a+-1*(s.b*s.b))+(s.a*s.b+s.b*s.a)*(s.a*s.b+s.b*s.a)) (by kernel_rfl)
noncomputable def D0 (a:FP2):FP:=a.a*a.a+a.b*a.b
theorem AJm {a:FP2} (h:Ej (D0 a)=false):FH a=false:=by
 cases hi:FH a with
 | false=>rfl
 | true =>
  obtain ⟨s,hs⟩:=RK.1 hi
  have:=RJ (sM hs)
  unfold D0 at h
  rw [this] at h;cases h
theorem AJn {h:FP} (hh:h+h=1) {a:FP2} (hi:Ej (D0 a)=true) (h1:Dz h a (Dy (D0 a))=false) (h2:Dz h a (-Dy (D0 a))=false):FH a=false:=by
 cases hq:FH a with
 | false=>rfl
 | true =>
  obtain ⟨s,hs⟩:=RK.1 hq
  rcases U7 ((U6 hi).trans (sM hs).symm) with e | e
  ·rw [sL hh hs e] at h1;cases h1
  ·rw [sL hh hs (n:=-Dy (D0 a)) (by rw [e];exact neg_neg _)] at h2;cases h2
theorem e4:(pN-3) / 4*4+3=pN:=by kernel_rfl
def Qx.sc {F:Type} [CR F] {β:F} (x:Qx β) (k:F):Qx β:=⟨x.a*k,x.b*k⟩
noncomputable def cj (r:R FP2):R FP2:=en (Qx.conj (mo r:FP2))
noncomputable def sc (r:R FP2) (k:R FP):R FP2:=en (Qx.sc (mo r:FP2) (mo k))
noncomputable def mx (r:R FP2):R FP2:=en ((mo r:FP2)*xi)
def KH:List (TypeId×List (Option IntKind)):=(39,List.replicate 12 (some .u64))::(41,List.replicate 24 (some .u64)++[none])::(98,List.replicate 36 (some .u64))::KG
theorem BE:In Tryz.prog KH:=⟨⟨by kernel_rfl,by kernel_rfl,by kernel_rfl⟩,⟨by kernel_rfl,by kernel_rfl,by kernel_rfl⟩,⟨by kernel_rfl,by kernel_rfl,by kernel_rfl⟩,CV⟩
theorem AJo (r s:R FP2):(su FP (mu FP r.1 s.1) (mu FP r.2 s.2),su FP (mu FP (ad FP r.1 r.2) (ad FP s.1 s.2)) (ad FP (mu FP r.1 s.1) (mu FP r.2 s.2)))=mu FP2 r s:=by
 refine Prod.ext ?_ ?_<;>simp only [su,mu,ad,mo_en]
 ·exact congrArg (en (α:=FP)) (ring [tf r.1,tf r.2,tf s.1,tf s.2] (a:=tf r.1*tf s.1-tf r.2*tf s.2) (b:=tf r.1*tf s.1+-1*(tf r.2*tf s.2)) (by kernel_rfl))
 ·exact congrArg (en (α:=FP)) (ring [tf r.1,tf r.2,tf s.1,tf s.2] (a:=(tf r.1+tf r.2)*(tf s.1+tf s.2)-(tf r.1*tf s.1+tf r.2*tf s.2)) (b:=tf r.1*tf s.2+tf r.2*tf s.1) (by kernel_rfl))
theorem AJp (x:FP2):x.nrm=x.a*x.a+x.b*x.b:=ring [x.a,x.b] (a:=x.a*x.a - -1*(x.b*x.b)) (by kernel_rfl)
theorem AJq (r:R FP2):sc (cj r) (iv FP (ad FP (mu FP r.1 r.1) (mu FP r.2 r.2)))=iv FP2 r:=by
 simp only [sc,cj,iv,mu,ad,mo_en]
 have e:=AJp (mo r:FP2)
 show en (Qx.sc (Qx.conj (mo r:FP2)) (FD.inv ((mo r:FP2).a*(mo r:FP2).a+(mo r:FP2).b*(mo r:FP2).b)))=en (qO (mo r:FP2))
 rw [← e];rfl
noncomputable abbrev oH1:Orc:=AI SH1 KH
theorem Mt:OrcOk Tryz.prog oH1:=AK aE BE
section
variable (r s:R FP2) (k:R FP)
theorem AJr:Ac Tryz.prog oH1 Tryz.f135 [va FP2 r] [] 300=some ([],va FP2 (re FP2 r)):=by kernel_rfl
theorem AJs:Ac Tryz.prog oH1 Tryz.f89 [va FP2 r,va FP2 s] [] 300=some ([],va FP2 (ad FP2 r s)):=by kernel_rfl
theorem AJt:Ac Tryz.prog oH1 Tryz.f137 [va FP2 r,va FP2 s] [] 300=some ([],va FP2 (su FP2 r s)):=by kernel_rfl
theorem AJu:Ac Tryz.prog oH1 Tryz.f91 [va FP2 r] [] 300=some ([],va FP2 (ng FP2 r)):=by kernel_rfl
theorem AJv:Ac Tryz.prog oH1 Tryz.f216 [va FP2 r] [] 300=some ([],va FP2 (cj r)):=by kernel_rfl
theorem AJw:Ac Tryz.prog oH1 Tryz.f215 [va FP2 r,va FP k] [] 300=some ([],va FP2 (sc r k)):=by kernel_rfl
noncomputable abbrev sN:Orc:=AI ((156,DG Tryz.prog oH1 Tryz.f156 300)::SH1) KH
theorem AJx:OrcOk Tryz.prog sN:=AK ⟨Dd Mt AE Tryz.func156 (by kernel_rfl) (by kernel_rfl) 300,aE⟩ BE
theorem AJy:Ac Tryz.prog sN Tryz.f90 [va FP2 r,va FP2 s] [] 300=some ([],va FP2 (su FP (mu FP r.1 s.1) (mu FP r.2 s.2),su FP (mu FP (ad FP r.1 r.2) (ad FP s.1 s.2)) (ad FP (mu FP r.1 s.1) (mu FP r.2 s.2)))):=by kernel_rfl
end
noncomputable def SH2:List (FuncId×ASpec):=(135,Ar (EF FP2 fun r=>va FP2 (re FP2 r)))::(89,Ar (GF FP2 FP2 fun r s=>va FP2 (ad FP2 r s)))::(137,Ar (GF FP2 FP2 fun r s=>va FP2 (su FP2 r s)))::(91,Ar (EF FP2 fun r=>va FP2 (ng FP2 r)))::(216,Ar (EF FP2 fun r=>va FP2 (cj r)))::(215,Ar (GF FP2 FP fun r k=>va FP2 (sc r k)))::(90,Ar (GF FP2 FP2 fun r s=>va FP2 (mu FP2 r s)))::SH1
theorem sO:AU Tryz.prog SH2:=⟨Au Tryz.func135 (by kernel_rfl) (by kernel_rfl) (Ei fun r=>Ag Mt AE Tryz.func135 (AJr r) trivial rfl),Au Tryz.func89 (by kernel_rfl) (by kernel_rfl) (HV fun r s=>Ag Mt AE Tryz.func89 (AJs r s) trivial rfl),Au Tryz.func137 (by kernel_rfl) (by kernel_rfl) (HV fun r s=>Ag Mt AE Tryz.func137 (AJt r s) trivial rfl),Au Tryz.func91 (by kernel_rfl) (by kernel_rfl) (Ei fun r=>Ag Mt AE Tryz.func91 (AJu r) trivial rfl),Au Tryz.func216 (by kernel_rfl) (by kernel_rfl) (Ei fun r=>Ag Mt AE Tryz.func216 (AJv r) trivial rfl),Au Tryz.func215 (by kernel_rfl) (by kernel_rfl) (HV fun r s=>Ag Mt AE Tryz.func215 (AJw r s) trivial rfl),Au Tryz.func90 (by kernel_rfl) (by kernel_rfl) (HV fun r s=>by rw [← AJo];exact Ag AJx AE Tryz.func90 (AJy r s) trivial rfl),aE⟩
noncomputable abbrev oH2:Orc:=AI SH2 KH
theorem AJz:OrcOk Tryz.prog oH2:=AK sO BE
section
variable (r s:R FP2)
theorem AJ0:Ac Tryz.prog oH2 Tryz.f138 [va FP2 r] [] 300=some ([],va FP2 (sc (cj r) (iv FP (ad FP (mu FP r.1 r.1) (mu FP r.2 r.2))))):=by kernel_rfl
end
noncomputable def SH3:List (FuncId×ASpec):=(138,Ar (EF FP2 fun r=>va FP2 (iv FP2 r)))::SH2
theorem sP:AU Tryz.prog SH3:=⟨Au Tryz.func138 (by kernel_rfl) (by kernel_rfl) (Ei fun r=>by rw [← AJq];exact Ag AJz AE Tryz.func138 (AJ0 r) trivial rfl),sO⟩
noncomputable abbrev oH3:Orc:=AI SH3 KH
theorem aG:OrcOk Tryz.prog oH3:=AK sP BE
abbrev P2:Type:=Pt FP2
def dq (x y:Nat):Bool:=decide (x=y)
def Fs (r s:R FP2):Bool:=dq r.1 s.1&&dq r.2 s.2
theorem Mu (x y:FP):dq x.val y.val=decide (x=y):=by
 unfold dq
 by_cases h:x=y
 ·rw [decide_eq_true h,decide_eq_true (congrArg Fin.val h)]
 ·rw [decide_eq_false h,decide_eq_false fun e=>h (Fin.ext e)]
theorem U9 (x y:FP2):Fs (en x) (en y)=decide (x=y):=by
 show (dq x.a.val y.a.val&&dq x.b.val y.b.val)=_
 rw [Mu,Mu]
 by_cases h:x=y
 ·subst h;rw [decide_eq_true rfl,decide_eq_true rfl,decide_eq_true rfl];rfl
 ·rw [decide_eq_false h]
  by_cases h1:x.a=y.a
  ·rw [decide_eq_false fun h2=>h (Qx.ext h1 h2),Bool.and_false]
  ·rw [decide_eq_false h1,Bool.false_and]
def DL (r:R FP2):Bool:=dq r.1 0&&dq r.2 0
theorem RM (x:FP2):DL (en x)=decide (x=0):=U9 x 0
def AJ1:List Ch:=[.n .u64 4,.n .u64 0,.n .u64 0,.n .u64 0,.n .u64 0,.n .u64 0,.n .u64 4,.n .u64 0,.n .u64 0,.n .u64 0,.n .u64 0,.n .u64 0]
theorem AJ2:Ac Tryz.prog oH3 Tryz.f136 [] [] 100=some ([],.val true AJ1):=by kernel_rfl
def Dk (i:Bool):List Ch:=List.replicate 24 (.n .u64 0)++[.b i]
def ev (α:Type) [Sh α] (x:AV):List AV→Option AV | []=>some x | _=>none
section
variable (r s:R P2)
theorem AJ3:Ac Tryz.prog oH3 Tryz.f74 [va P2 r] [true] 300=some ([(r.2.2,true)],.val true (Dk true)):=by kernel_rfl
theorem AJ4:Ac Tryz.prog oH3 Tryz.f74 [va P2 r] [false] 300=some ([(r.2.2,false)],.val true (Cm (av (re FP2 r.1)) (Cm (av (re FP2 r.2.1)) [.b false]))):=by kernel_rfl
end
theorem AJ5 (r:R P2):AX Tryz.prog 74 [va P2 r] (ve (mo r:P2)):=by
 have h1:=AJ3 r
 have h2:=AJ4 r
 obtain ⟨x,y,i⟩:=r
 cases i with
 | true=>exact G5 (α:=P2) (r:=(en (.inf:P2):R P2)) (Ag aG AE Tryz.func74 h1 ⟨rfl,trivial⟩ rfl) (by kernel_rfl)
 | false=>exact G5 (α:=P2) (r:=((re FP2 x,re FP2 y,false):R P2)) (Ag aG AE Tryz.func74 h2 ⟨rfl,trivial⟩ rfl) (by kernel_rfl)
noncomputable def SJ0:List (FuncId×ASpec):=(136,Ar (ev FP2 (ve Ms)))::(74,Ar (EF P2 fun r=>ve (mo r:P2)))::SH3
theorem aH {α:Type} [Sh α] {P:Program} {f:FuncId} {x:AV} (h:AX P f [] x):∀ args v,ev α x args=some v→AX P f args v:=by
 intro args v hs
 unfold ev at hs
 split at hs
 ·injection hs with hs;subst hs;exact h
 ·cases hs
theorem AJ6:AX Tryz.prog 136 [] (ve Ms):=G5 (α:=FP2) (r:=(en Ms:R FP2)) (Ag aG AE Tryz.func136 AJ2 trivial rfl) (by kernel_rfl)
theorem sQ:AU Tryz.prog SJ0:=⟨Au Tryz.func136 (by kernel_rfl) (by kernel_rfl) (aH AJ6),Au Tryz.func74 (by kernel_rfl) (by kernel_rfl) (Ei AJ5),sP⟩
noncomputable abbrev oJ0:Orc:=AI SJ0 KH
theorem LF:OrcOk Tryz.prog oJ0:=AK sQ BE
noncomputable def rX (p:P2):R FP2:=(en p).1
noncomputable def rY (p:P2):R FP2:=(en p).2.1
noncomputable def aI (x y:R FP2):Bool:=Fs (mu FP2 y y) (ad FP2 (mu FP2 (mu FP2 x x) x) (en Ms))
noncomputable def CW (p:P2):Bool:=match p with
 | .inf=>true
 | .pt x y=>decide (y*y=x*x*x+Ms)
theorem AJ7 (p:P2):CW p=true↔Rg.On C2.b p:=by
 cases p with
 | inf=>exact ⟨fun _=>trivial,fun _=>rfl⟩
 | pt a b=>exact decide_eq_true_iff
theorem AJ8 (x y:R FP2):aI x y=CW (.pt (mo x) (mo y)):=by
 unfold aI mu ad CW
 rw [U9]
 simp only [mo_en]
section
variable (r:R P2)
theorem AJ9:Ac Tryz.prog oJ0 Tryz.f75 [va P2 r] [true] 300=some ([(r.2.2,true)],.val false [.b true]):=by kernel_rfl
theorem AJ_:Ac Tryz.prog oJ0 Tryz.f75 [va P2 r] [false] 300=some ([(r.2.2,false)],BV (aI r.1 r.2.1)):=by kernel_rfl
end
theorem AJ' (r:R P2):AX Tryz.prog 75 [va P2 r] (BV (CW (mo r))):=by
 have h1:=AJ9 r
 have h2:=AJ_ r
 obtain ⟨x,y,i⟩:=r
 cases i with
 | true=>exact C_ (Ag LF AE Tryz.func75 h1 ⟨rfl,trivial⟩ rfl) fun u hu=>Kq rfl hu
 | false =>
  rw [show CW (mo ((x,y,false):R P2))=CW (.pt (mo x) (mo y)) from rfl,← AJ8]
  exact Ag LF AE Tryz.func75 h2 ⟨rfl,trivial⟩ rfl
noncomputable def U_ (px py qx qy:R FP2):R FP2:=mu FP2 (su FP2 qy py) (iv FP2 (su FP2 qx px))
noncomputable def U' (px py:R FP2):R FP2:=mu FP2 (ad FP2 (ad FP2 (mu FP2 px px) (mu FP2 px px)) (mu FP2 px px)) (iv FP2 (ad FP2 py py))
noncomputable def RN (l px qx:R FP2):R FP2:=su FP2 (su FP2 (mu FP2 l l) px) qx
noncomputable def aJ (l px py x:R FP2):R FP2:=su FP2 (mu FP2 l (su FP2 px x)) py
noncomputable def aK (l:R FP2) (p q:P2):List Ch:=Cm (av (RN l (rX p) (rX q))) (Cm (av (aJ l (rX p) (rY p) (RN l (rX p) (rX q)))) [.b false])
section
variable (r s:R P2)
noncomputable def VA (p q:P2) (d:Bool) (l:List (Bool×Bool)):List (Bool×Bool):=(DK p,false)::(DK q,false)::(!Fs (rX p) (rX q),d)::l
theorem AKA:Ac Tryz.prog oJ0 Tryz.f107 [va P2 r,va P2 s] [true] 300=some ([(DK (mo r:P2),true)],ve (mo s:P2)):=by kernel_rfl
theorem AKB:Ac Tryz.prog oJ0 Tryz.f107 [va P2 r,va P2 s] [false,true] 300=some ([(DK (mo r:P2),false),(DK (mo s:P2),true)],ve (mo r:P2)):=by kernel_rfl
theorem AKC:Ac Tryz.prog oJ0 Tryz.f107 [va P2 r,va P2 s] [false,false,true] 300=some (VA (mo r) (mo s) true [],.val true (aK (U_ (rX (mo r)) (rY (mo r)) (rX (mo s)) (rY (mo s))) (mo r) (mo s))):=by kernel_rfl
theorem AKD:Ac Tryz.prog oJ0 Tryz.f107 [va P2 r,va P2 s] [false,false,false,true] 300=some (VA (mo r) (mo s) false [(!Fs (rY (mo r)) (rY (mo s)),true)],.val true (Dk true)):=by kernel_rfl
theorem AKE:Ac Tryz.prog oJ0 Tryz.f107 [va P2 r,va P2 s] [false,false,false,false,true] 300=some (VA (mo r) (mo s) false [(!Fs (rY (mo r)) (rY (mo s)),false),(DL (rY (mo r)),true)],.val true (Dk true)):=by kernel_rfl
theorem AKF:Ac Tryz.prog oJ0 Tryz.f107 [va P2 r,va P2 s] [false,false,false,false,false] 300=some (VA (mo r) (mo s) false [(!Fs (rY (mo r)) (rY (mo s)),false),(DL (rY (mo r)),false)],.val true (aK (U' (rX (mo r)) (rY (mo r))) (mo r) (mo s))):=by kernel_rfl
end
theorem sR (x y:R FP2):(rd (Cm (av x) (Cm (av y) [.b false])):Option (R P2))=some ((x,y,false):R P2):=by kernel_rfl
theorem sS (a b c d L:FP2):rd (aK (en L) (.pt a b) (.pt c d))=some (en (IC a b c L):R P2):=by
 have e:(en (IC a b c L):R P2)=(RN (en L) (en a) (en c),aJ (en L) (en a) (en b) (RN (en L) (en a) (en c)),false):=by
  unfold RN aJ su mu
  simp only [mo_en]
  rfl
 rw [e]
 exact sR _ _
theorem AKG (a b c d:FP2):U_ (en a) (en b) (en c) (en d)=en ((d-b)*FD.inv (c-a)):=by unfold U_ mu su iv;simp only [mo_en]
theorem AKH (a b:FP2):U' (en a) (en b)=en ((a*a+a*a+a*a)*FD.inv (b+b)):=by unfold U' mu ad iv;simp only [mo_en]
theorem AKI (r s:R P2):AX Tryz.prog 107 [va P2 r,va P2 s] (ve (Rg.add (mo r:P2) (mo s))):=by
 have r1:=AKA r s
 have r2:=AKB r s
 have r3:=AKC r s
 have r4:=AKD r s
 have r5:=AKE r s
 have r6:=AKF r s
 generalize (mo r:P2)=p at *
 generalize (mo s:P2)=q at *
 have zz:rd (Dk true)=some (en (.inf:P2):R P2):=by kernel_rfl
 cases p with
 | inf=>exact Ag LF AE Tryz.func107 r1 ⟨rfl,trivial⟩ rfl
 | pt a b=>cases q with
  | inf=>exact Ag LF AE Tryz.func107 r2 ⟨rfl,rfl,trivial⟩ rfl
  | pt c d =>
   have eX:Fs (rX (.pt a b)) (rX (.pt c d))=decide (a=c):=U9 a c
   have eY:Fs (rY (.pt a b)) (rY (.pt c d))=decide (b=d):=U9 b d
   have eZ:DL (rY (.pt a b))=decide (b=0):=RM b
   rw [ON]
   by_cases hx:a=c
   ·rw [if_pos hx]
    by_cases hy:b=d
    ·by_cases h0:b=0
     ·rw [if_neg (fun h=>h.2 h0)]
      exact G5 (Ag LF AE Tryz.func107 r5 ⟨rfl,rfl,by rw [eX,decide_eq_true hx];rfl,by rw [eY,decide_eq_true hy];rfl,by rw [eZ,decide_eq_true h0],trivial⟩ rfl) zz
     ·rw [if_pos ⟨hy,h0⟩]
      rw [show U' (rX (.pt a b)) (rY (.pt a b))=_ from AKH a b] at r6
      exact G5 (Ag LF AE Tryz.func107 r6 ⟨rfl,rfl,by rw [eX,decide_eq_true hx];rfl,by rw [eY,decide_eq_true hy];rfl,by rw [eZ,decide_eq_false h0],trivial⟩ rfl) (sS a b c d _)
    ·rw [if_neg (fun h=>hy h.1)]
     exact G5 (Ag LF AE Tryz.func107 r4 ⟨rfl,rfl,by rw [eX,decide_eq_true hx];rfl,by rw [eY,decide_eq_false hy];rfl,trivial⟩ rfl) zz
   ·rw [if_neg hx]
    rw [show U_ (rX (.pt a b)) (rY (.pt a b)) (rX (.pt c d)) (rY (.pt c d))=_ from AKG a b c d] at r3
    exact G5 (Ag LF AE Tryz.func107 r3 ⟨rfl,rfl,by rw [eX,decide_eq_false hx];rfl,trivial⟩ rfl) (sS a b c d _)
noncomputable def SJ1:List (FuncId×ASpec):=(75,Ar (EF P2 fun r=>BV (CW (mo r))))::(107,Ar (GF P2 P2 fun r s=>ve (Rg.add (mo r:P2) (mo s))))::SJ0
theorem sU:AU Tryz.prog SJ1:=⟨Au Tryz.func75 (by kernel_rfl) (by kernel_rfl) (Ei AJ'),Au Tryz.func107 (by kernel_rfl) (by kernel_rfl) (HV AKI),sQ⟩
abbrev J2:Type:=J FP2
noncomputable abbrev oJ1:Orc:=AI SJ1 KH
theorem AKJ:OrcOk Tryz.prog oJ1:=AK sU BE
def lq (x y:Nat):Bool:=decide (x<y)
def Cd (r:R FP2):Bool:=lq r.1 pN&&lq r.2 pN
theorem Mv {r:R FP2} (h:Cd r=true):en (mo r:FP2)=r:=by
 obtain ⟨h1,h2⟩:=Bool.and_eq_true_iff.1 h
 exact Prod.ext (JF (of_decide_eq_true h1)) (JF (of_decide_eq_true h2))
theorem Mw (x:FP2):Cd (en x)=true:=Bool.and_eq_true_iff.2 ⟨decide_eq_true x.a.isLt,decide_eq_true x.b.isLt⟩
noncomputable def qE (x:R FP2):R FP2:=ad FP2 (ad FP2 (mu FP2 x x) (mu FP2 x x)) (mu FP2 x x)
noncomputable def qD (x y:R FP2):R FP2:=ad FP2 (ad FP2 (mu FP2 x (mu FP2 y y)) (mu FP2 x (mu FP2 y y))) (ad FP2 (mu FP2 x (mu FP2 y y)) (mu FP2 x (mu FP2 y y)))
noncomputable def aL (y:R FP2):R FP2:=ad FP2 (mu FP2 (mu FP2 y y) (mu FP2 y y)) (mu FP2 (mu FP2 y y) (mu FP2 y y))
noncomputable def aM (y:R FP2):R FP2:=ad FP2 (aL y) (aL y)
noncomputable def sV (y:R FP2):R FP2:=ad FP2 (aM y) (aM y)
noncomputable def qX (x y:R FP2):R FP2:=su FP2 (mu FP2 (qE x) (qE x)) (ad FP2 (qD x y) (qD x y))
noncomputable def qY (x y:R FP2):R FP2:=su FP2 (mu FP2 (qE x) (su FP2 (qD x y) (qX x y))) (sV y)
noncomputable def qT (r:R J2):R J2:=(qX r.1 r.2.1,qY r.1 r.2.1,ad FP2 (mu FP2 r.2.1 r.2.2) (mu FP2 r.2.1 r.2.2))
theorem AKK (r:R J2):Ac Tryz.prog oJ1 Tryz.f76 [va J2 r] [] 500=some ([],va J2 (qT r)):=by kernel_rfl
theorem AKL (r:R J2):qT r=en (Bq (mo r:J2)):=by
 unfold qT qY qX sV aM aL qD qE su mu ad
 simp only [mo_en]
 rfl
theorem AKM (r:R J2):AX Tryz.prog 76 [va J2 r] (ve (Bq (mo r:J2))):=by
 unfold ve
 rw [← AKL]
 exact Ag AKJ AE Tryz.func76 (AKK r) trivial rfl
noncomputable def SJ2:List (FuncId×ASpec):=(76,Ar (EF J2 fun r=>ve (Bq (mo r:J2))))::SJ1
theorem sW:AU Tryz.prog SJ2:=⟨Au Tryz.func76 (by kernel_rfl) (by kernel_rfl) (Ei AKM),sU⟩
noncomputable abbrev oJ2:Orc:=AI SJ2 KH
theorem Mx:OrcOk Tryz.prog oJ2:=AK sW BE
noncomputable def qH (x z a:R FP2):R FP2:=su FP2 (mu FP2 a (mu FP2 z z)) x
noncomputable def qR (y z b:R FP2):R FP2:=su FP2 (mu FP2 b (mu FP2 (mu FP2 z z) z)) y
noncomputable def VB (x h r:R FP2):R FP2:=su FP2 (su FP2 (mu FP2 r r) (mu FP2 (mu FP2 h h) h)) (ad FP2 (mu FP2 x (mu FP2 h h)) (mu FP2 x (mu FP2 h h)))
noncomputable def aN (x y h r:R FP2):R FP2:=su FP2 (mu FP2 r (su FP2 (mu FP2 x (mu FP2 h h)) (VB x h r))) (mu FP2 y (mu FP2 (mu FP2 h h) h))
section
variable (p:R J2) (q:R P2)
def VC:List Ch:=List.replicate 36 (.n .u64 0)
theorem AKN:Ac Tryz.prog oJ2 Tryz.f77 [va J2 p,va P2 q] [true] 500=some ([(DL p.2.2,true)],.val true (Cm (av q.1) (Cm (av q.2.1) (.n .u64 1::List.replicate 11 (.n .u64 0))))):=by kernel_rfl
theorem AKO:Ac Tryz.prog oJ2 Tryz.f77 [va J2 p,va P2 q] [false,true,true] 500=some ([(DL p.2.2,false),(DL (qH p.1 p.2.2 q.1),true),(DL (qR p.2.1 p.2.2 q.2.1),true)],ve (Bq (mo p:J2))):=by kernel_rfl
theorem AKP:Ac Tryz.prog oJ2 Tryz.f77 [va J2 p,va P2 q] [false,true,false,true] 500=some ([(DL p.2.2,false),(DL (qH p.1 p.2.2 q.1),true),(DL (qR p.2.1 p.2.2 q.2.1),false),(DL (qH p.1 p.2.2 q.1),true)],.val true VC):=by kernel_rfl
theorem AKQ:Ac Tryz.prog oJ2 Tryz.f77 [va J2 p,va P2 q] [false,false,false] 500=some ([(DL p.2.2,false),(DL (qH p.1 p.2.2 q.1),false),(DL (qH p.1 p.2.2 q.1),false)],
 va J2 (VB p.1 (qH p.1 p.2.2 q.1) (qR p.2.1 p.2.2 q.2.1),aN p.1 p.2.1 (qH p.1 p.2.2 q.1) (qR p.2.1 p.2.2 q.2.1),mu FP2 p.2.2 (qH p.1 p.2.2 q.1))):=by kernel_rfl
end
theorem AKR (x y:R FP2):(rd (Cm (av x) (Cm (av y) (.n .u64 1::List.replicate 11 (.n .u64 0)))):Option (R J2))=some ((x,y,en (1:FP2)):R J2):=by kernel_rfl
theorem AKS {p:R J2} {q:R P2} (hz:Cd p.2.2=true) (hx:Cd q.1=true) (hy:Cd q.2.1=true):AX Tryz.prog 77 [va J2 p,va P2 q] (ve (FG (mo p:J2) (mo q.1) (mo q.2.1))):=by
 have ez:DL p.2.2=decide ((mo p:J2).z=0):=by
  conv=>lhs;rw [← Mv hz]
  exact RM _
 have eh:qH p.1 p.2.2 q.1=en (pH (mo p:J2) (mo q.1)):=by unfold qH su mu;simp only [mo_en];rfl
 have er:qR p.2.1 p.2.2 q.2.1=en (pR (mo p:J2) (mo q.2.1)):=by unfold qR su mu;simp only [mo_en];rfl
 have zh:DL (qH p.1 p.2.2 q.1)=decide (pH (mo p:J2) (mo q.1)=0):=by rw [eh];exact RM _
 have zr:DL (qR p.2.1 p.2.2 q.2.1)=decide (pR (mo p:J2) (mo q.2.1)=0):=by rw [er];exact RM _
 have r1:=AKN p q
 have r2:=AKO p q
 have r3:=AKP p q
 have r4:=AKQ p q
 rw [zh,ez] at r2
 rw [zh,ez,zr] at r3
 rw [zr] at r2
 rw [zh,ez,eh,er] at r4
 rw [ez] at r1
 unfold FG
 by_cases h0:(mo p:J2).z=0
 ·rw [if_pos h0]
  refine G5 (α:=J2) (r:=(en (⟨mo q.1,mo q.2.1,1⟩:J2):R J2)) (Ag Mx AE Tryz.func77 r1 ⟨decide_eq_true h0,trivial⟩ rfl) ?_
  have e:(en (⟨mo q.1,mo q.2.1,1⟩:J2):R J2)=(q.1,q.2.1,en (1:FP2)):=by
   show ((en (mo q.1:FP2),en (mo q.2.1:FP2),en (1:FP2)):R J2)=_
   rw [Mv hx,Mv hy]
  rw [e]
  exact AKR _ _
 ·rw [if_neg h0]
  by_cases hh:pH (mo p:J2) (mo q.1)=0
  ·rw [if_pos hh]
   by_cases hr:pR (mo p:J2) (mo q.2.1)=0
   ·rw [if_pos hr]
    exact Ag Mx AE Tryz.func77 r2 ⟨decide_eq_false h0,decide_eq_true hh,decide_eq_true hr,trivial⟩ rfl
   ·rw [if_neg hr]
    exact G5 (α:=J2) (r:=(en (⟨0,0,0⟩:J2):R J2)) (Ag Mx AE Tryz.func77 r3 ⟨decide_eq_false h0,decide_eq_true hh,decide_eq_false hr,decide_eq_true hh,trivial⟩ rfl) (by kernel_rfl)
  ·rw [if_neg hh]
   have e:((VB p.1 (en (pH (mo p:J2) (mo q.1))) (en (pR (mo p:J2) (mo q.2.1))),aN p.1 p.2.1 (en (pH (mo p:J2) (mo q.1))) (en (pR (mo p:J2) (mo q.2.1))),mu FP2 p.2.2 (en (pH (mo p:J2) (mo q.1)))):R J2) =
     en (⟨pX (mo p:J2).x (pH (mo p:J2) (mo q.1)) (pR (mo p:J2) (mo q.2.1)),pY (mo p:J2).x (mo p:J2).y (pH (mo p:J2) (mo q.1)) (pR (mo p:J2) (mo q.2.1)),(mo p:J2).z*pH (mo p:J2) (mo q.1)⟩:J2):=by
    unfold aN VB su mu ad
    simp only [mo_en]
    rfl
   rw [e] at r4
   exact Ag Mx AE Tryz.func77 r4 ⟨decide_eq_false h0,decide_eq_false hh,decide_eq_false hh,trivial⟩ rfl
noncomputable def aO:List AV→Option (List (Bool×Bool)×AV)
 | [.val true a,.val true b]=>match (rd a:Option (R J2)),(rd b:Option (R P2)) with
  | some p,some q=>some ([(Cd p.2.2,true),(Cd q.1,true),(Cd q.2.1,true)],ve (FG (mo p:J2) (mo q.1) (mo q.2.1)))
  | _,_=>none
 | _=>none
theorem AKT:∀ args c v,aO args=some (c,v)→AQ c→AX Tryz.prog 77 args v:=by
 intro args c v hs hc us w ha
 unfold aO at hs
 split at hs
 case h_2=>cases hs
 split at hs
 case h_2=>cases hs
 rename_i p q hx hy
 injection hs with hs;injection hs with h1 h2;subst h1;subst h2
 obtain ⟨u1,us1,r1,⟨u2,us2,r2,ha,rfl⟩,rfl⟩:=ha
 exact AKS hc.1 hc.2.1 hc.2.2.1 _ w ⟨u1,_,G4 hx r1,⟨u2,_,G4 hy r2,ha,rfl⟩,rfl⟩
def z6 (r:R J2):Bool:=dq r.1.1 0&&(dq r.1.2 0&&(dq r.2.1.1 0&&(dq r.2.1.2 0&&DL r.2.2)))
section
variable (r:R J2)
theorem AKU:Ac Tryz.prog oJ2 Tryz.f78 [va J2 r] [true] 500=some ([(z6 r,true)],.val true (Dk true)):=by kernel_rfl
theorem AKV:Ac Tryz.prog oJ2 Tryz.f78 [va J2 r] [false,true] 500=some ([(z6 r,false),(DL r.2.2,true)],.val true (Dk true)):=by kernel_rfl
noncomputable def qI (r:R J2):R FP2:=mu FP2 (iv FP2 r.2.2) (iv FP2 r.2.2)
theorem AKW:Ac Tryz.prog oJ2 Tryz.f78 [va J2 r] [false,false] 500=some ([(z6 r,false),(DL r.2.2,false)],.val true (Cm (av (mu FP2 r.1 (qI r))) (Cm (av (mu FP2 r.2.1 (mu FP2 (qI r) (iv FP2 r.2.2)))) [.b false]))):=by kernel_rfl
end
theorem AKX {r:R J2} (hz:Cd r.2.2=true):AX Tryz.prog 78 [va J2 r] (ve (CT (mo r:J2))):=by
 have ez:DL r.2.2=decide ((mo r:J2).z=0):=by
  conv=>lhs;rw [← Mv hz]
  exact RM _
 have zz:rd (Dk true)=some (en (.inf:P2):R P2):=by kernel_rfl
 by_cases h0:(mo r:J2).z=0
 ·rw [G0 h0]
  cases h3:z6 r with
  | true=>exact G5 (Ag Mx AE Tryz.func78 (AKU r) ⟨h3,trivial⟩ rfl) zz
  | false=>exact G5 (Ag Mx AE Tryz.func78 (AKV r) ⟨h3,by rw [ez];exact decide_eq_true h0,trivial⟩ rfl) zz
 ·have h3:z6 r=false:=by unfold z6;rw [ez,decide_eq_false h0];simp
  rw [ID h0]
  refine G5 (Ag Mx AE Tryz.func78 (AKW r) ⟨h3,by rw [ez];exact decide_eq_false h0,trivial⟩ rfl) ?_
  have e:(en (.pt ((mo r:J2).x*(FD.inv (mo r:J2).z*FD.inv (mo r:J2).z)) ((mo r:J2).y*((FD.inv (mo r:J2).z*FD.inv (mo r:J2).z)*FD.inv (mo r:J2).z)):P2):R P2)=(mu FP2 r.1 (qI r),mu FP2 r.2.1 (mu FP2 (qI r) (iv FP2 r.2.2)),false):=by
   unfold qI mu iv
   simp only [mo_en]
   rfl
  rw [e]
  exact sR _ _
noncomputable def aP:List AV→Option (List (Bool×Bool)×AV)
 | [.val true a]=>match (rd a:Option (R J2)) with
  | some p=>some ([(Cd p.2.2,true)],ve (CT (mo p:J2)))
  | _=>none
 | _=>none
theorem AKY:∀ args c v,aP args=some (c,v)→AQ c→AX Tryz.prog 78 args v:=by
 intro args c v hs hc us w ha
 unfold aP at hs
 split at hs
 case h_2=>cases hs
 split at hs
 case h_2=>cases hs
 rename_i p hx
 injection hs with hs;injection hs with h1 h2;subst h1;subst h2
 obtain ⟨u1,us1,r1,ha,rfl⟩:=ha
 exact AKX hc.1 _ w ⟨u1,_,G4 hx r1,ha,rfl⟩
noncomputable def SJ3:List (FuncId×ASpec):=(77,DI aO)::(78,DI aP)::SJ2
theorem sZ:AU Tryz.prog SJ3:=⟨Di Tryz.func77 (by kernel_rfl) (by kernel_rfl) AKT,Di Tryz.func78 (by kernel_rfl) (by kernel_rfl) AKY,sW⟩
noncomputable abbrev oJ3:Orc:=AI SJ3 KH
theorem Oj:OrcOk Tryz.prog oJ3:=AK sZ BE
end Go.Proofs.YtjlcdlekmpjjnaaGreat
